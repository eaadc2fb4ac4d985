/- The walk over code, and that it is sound; ranges over functions. -/
import Derived.Test.YtnanajdckbfamaaGreatDoorA10
set_option linter.unusedVariables false
set_option linter.unusedSimpArgs false
namespace Go.Abs

/-! ### Code -/
def thenA (K : AS → Prop) (Q : AExit → AS → Prop) : AExit → AS → Prop
  | .normal, s => K s
  | e, s => Q e s
def inBlockA (id : Nat) (Q : AExit → AS → Prop) : AExit → AS → Prop
  | .exit id', s => if id' = id then Q .normal s else Q (.exit id') s
  | e, s => Q e s

/-- Names below ns, but for those in ks, as they were in σ. -/
def restoreS (ns : Nm) (ks : List Nm) (σ τ : Store) : Store := fun n => if n.under ns = true ∧ n ∉ ks then σ n else τ n

/-- A value of which less is known. -/
def AVle (v v' : AV) : Prop := ∀ (ρ : Names) (M : Mem) (x : Value), VR ρ M v x → VR ρ M v' x
theorem AVle.refl (v : AV) : AVle v v := fun _ _ _ h => h
theorem AVle.any (v : AV) : AVle v .any := fun _ _ x _ => .any x
def AVsle (vs vs' : List AV) : Prop := vs.length = vs'.length ∧ ∀ (i : Nat) (v v' : AV), vs[i]? = some v → vs'[i]? = some v' → AVle v v'
theorem AVsle.vrs {vs vs' : List AV} (h : AVsle vs vs') {ρ : Names} {M : Mem} {xs : List Value} (hv : VRs ρ M vs xs) : VRs ρ M vs' xs :=
  ⟨by rw [← h.1]; exact hv.len, fun i v' x hv' hx => by
    have hi : i < vs.length := by rw [h.1]; exact (List.getElem?_eq_some_iff.1 hv').1
    exact h.2 i vs[i] v' (List.getElem?_eq_getElem hi) hv' ρ M x (hv.get i _ x (List.getElem?_eq_getElem hi) hx)⟩

/-- A variable of which less is known. -/
def VarWk (o' o : AObj) : Prop := o' = o ∨ ∃ cs cs', o' = .var cs ∧ o = .var cs' ∧ AVsle cs cs'
/-- A store of which less is known. -/
def StWk (τ σ' : Store) : Prop := ∀ n o, σ' n = some o → ∃ o', τ n = some o' ∧ VarWk o' o
/-- What may be told of a store when a call, or a round, ends: less. Names below ns may be told as they were. -/
def StWeak (ns : Nm) (σ τ σ' : Store) : Prop := ∀ n, (n.under ns = true ∧ σ' n = σ n) ∨ ∀ o, σ' n = some o → ∃ o', τ n = some o' ∧ VarWk o' o
theorem StWk.refl (τ : Store) : StWk τ τ := fun n o h => ⟨o, h, .inl rfl⟩

/-- The end of a round: S a is the state in which a round begins. -/
def loopG {α : Type} (S : α → AS) (μ : α → Nat) (Good : α → Prop) (ns : Nm) (c k : Nat) (a : α) (Q : AExit → AS → Prop) : AExit → AS → Prop
  | .normal, u => ∃ b, Good b ∧ μ b < μ a ∧ AVsle u.tmps (S b).tmps ∧ StWeak ((ns.sub c).sub k) (S a).st u.st (S b).st ∧ u.dfs = (S b).dfs ∧ u.fr = (S b).fr
  | e, u => Q e { u with ns := ns, c := c + 1 }

/-! ### Iterators -/
/-- A store that has turned in a part: what the part does not know of is kept. -/
def frameS (τ σ σ' : Store) : Store := fun n => if (σ n).isNone = true ∧ (τ n).isSome = true then τ n else σ' n
/-- The contract of an iterator: it yields ys, one behind the other, or is stopped. J: the states between rounds; X: stopped. -/
def AIter (P : Program) (g : FuncId) (caps : List AV) (ys : List (List AV)) : Prop :=
  enters P g = true ∧ ∀ (l : Nat) (ns : Nm) (J : Nat → Store → Fre → Prop) (X : Store → Fre → Prop),
    (∀ i σ F, J i σ F → (∀ n, n.under ns = true → σ n = none) ∧ ∀ n, F.keep n → n.under ns = false) →
    (∀ i σ F y τ, J i σ F → ys[i]? = some y → σ.le τ → AYield P l y τ F fun b τ' F' => ∃ σ', τ' = frameS τ σ σ' ∧ if b = true then J (i + 1) σ' F' else X σ' F') →
    ∀ (σ : Store) (F : Fre), J 0 σ F → ∀ (ρ : Names) (M : Mem) (w : World) (xs : List Value), Rel ρ M σ w → (∀ n, n.under ns = true → ρ n = none) → F.Ok ρ M → VRs ρ M (.fn (.yield l) [] [] :: caps) xs →
      Calls P g xs.toArray w fun e w' => ∃ x σ' F' ρ' M', e = .returned x ∧ (J ys.length σ' F' ∨ X σ' F') ∧ F'.Le F ∧ F'.Ok ρ' M' ∧ Rel ρ' M' σ' w' ∧ Evo (fun n => n.under ns = true ∨ F.keep n) ρ M σ w ρ' M' σ' w'
/-- The words of a round. -/
def bindT (ps : List Tmp) (y : List AV) (tmps : List AV) : List AV := (ps.zip y).foldl (fun t p => t.set p.1 p.2) tmps
/-- The end of a round over a function. -/
def roundG (J : Nat → Store → Fre → Prop) (i : Nat) (σ : Store) (s : AS) (Q : AExit → AS → Prop) : AExit → AS → Prop
  | .normal, u => ∃ σ', StWeak ((s.ns.sub s.c).sub (i + 1)) σ u.st σ' ∧ J (i + 1) σ' u.fr
  | .panic _, _ => False
  | e, u => Q e { s with st := u.st, c := s.c + 1, fr := u.fr }
/-- What follows the assignment of a round's words. -/
def assignG (K : AS → Prop) : AExit → AS → Prop
  | .normal, u => K u
  | _, _ => False

def wpc (P : Program) (pl : List (Nat × Plan)) : Code → (AExit → AS → Prop) → AS → Prop
  | .skip, Q, s => Q .normal s
  | .label _, Q, s => Q .normal s
  | .region id ops draw, Q, s => match draw with
    | false => aSeq P ops Q ops.toList 0 s
    | true => match pl.lookup id with
      | some p => aPlan P ops Q p s
      | none => False
  | .seq x y, Q, s => wpc P pl x (thenA (wpc P pl y Q) Q) s
  | .cond c x y, Q, s => match s.ev c with
    | .bool t => (t = true → wpc P pl x Q s) ∧ (t = false → wpc P pl y Q s)
    | .anyb => wpc P pl x Q s ∧ wpc P pl y Q s
    | _ => False
  | .block id c, Q, s => wpc P pl c (inBlockA id Q) s
  | .loop cd, Q, s => ∃ (α : Type) (S : α → AS) (μ : α → Nat) (Good : α → Prop) (a0 : α), (∀ a, Good a → (S a).ns = s.ns ∧ (S a).c = s.c ∧ (S a).fr.Le s.fr) ∧ Good a0 ∧ AVsle s.tmps (S a0).tmps ∧ StWk s.st (S a0).st ∧ s.dfs = (S a0).dfs ∧ s.fr = (S a0).fr ∧
      ∀ (a : α) (k : Nat), Good a → (∀ n, n.under ((s.ns.sub s.c).sub k) = true → (S a).st n = none) → wpc P pl cd (loopG S μ Good s.ns s.c k a Q) { S a with ns := (s.ns.sub s.c).sub k, c := 0 }
  | .rangeFunc g ps asg body, Q, s => ∃ (gf : FuncId) (caps : List AV) (ys : List (List AV)) (J : Nat → Store → Fre → Prop) (σ0 : Store), s.ev g = .fn (.func gf) [] caps ∧ AIter P gf caps ys ∧ StWk s.st σ0 ∧ J 0 σ0 s.fr ∧ (∀ y ∈ ys, y.length = ps.size) ∧
      (∀ i σ F y, J i σ F → ys[i]? = some y → F.Le s.fr → (∀ n, n.under ((s.ns.sub s.c).sub (i + 1)) = true → σ n = none) → wpc P pl asg (assignG (wpc P pl body (roundG J i σ s Q))) ⟨bindT ps.toList y s.tmps, σ, (s.ns.sub s.c).sub (i + 1), 0, [], F⟩) ∧
      (∀ σ F, J ys.length σ F → Q .normal { s with st := σ, c := s.c + 1, fr := F })
  | .exit id, Q, s => Q (.exit id) s
  | .goto l, Q, s => Q (.goto l) s
  | .ret, Q, s => Q .ret s
  | .scope _, _, _ => False
  | .refuse _, _, _ => False

/-- Do the plans fit? -/
def fitsC (pl : List (Nat × Plan)) : Code → Bool
  | .region id ops true => match pl.lookup id with
    | some p => decide (p.len ≤ ops.size) && planFits ops p (Array.replicate ops.size false)
    | none => true
  | .seq x y => fitsC pl x && fitsC pl y
  | .cond _ x y => fitsC pl x && fitsC pl y
  | .block _ c => fitsC pl c
  | .loop c => fitsC pl c
  | .rangeFunc _ _ a b => fitsC pl a && fitsC pl b
  | _ => true

/-- The fence that lets all in; r: the round's number, if it is one. -/
def FW (r : Option Nat) : Fence := { fn := fun _ => True, depth := none, alive := false, round := r }
theorem FW_none : FW none = Fence.wide := rfl
theorem callsIn_FW {r : Option Nat} {n : Nat} {P : Program} {f : FuncId} {args : Array Value} {w : World} {R : Ending → World → Prop} (h : Calls P f args w R) : CallsIn (FW r) n P f args w R :=
  have h' : CallsIn Fence.wide n P f args w R := callsIn_wide.2 h
  match r with
  | none => h'
  | some _ => h'

section
variable {P : Program} {ρ : Names} {M : Mem}

def resultAt (a : Act) (r : ResultVar) : Sem Value := match r with
  | .tmp t => pure (a.tmps.getD t undef)
  | .cell c t => do loadVar t (← asAddr (a.tmps.getD c undef))

@[simp] theorem AS.setSt_ns (s : AS) (σ : Store) : (s.setSt σ).ns = s.ns := rfl
@[simp] theorem AS.setSt_c (s : AS) (σ : Store) : (s.setSt σ).c = s.c := rfl
@[simp] theorem AS.setSt_st (s : AS) (σ : Store) : (s.setSt σ).st = σ := rfl
@[simp] theorem AS.setSt_fr (s : AS) (σ : Store) : (s.setSt σ).fr = s.fr := rfl
@[simp] theorem AS.setYd_ns (s : AS) (σ : Store) (F : Fre) : (s.setYd σ F).ns = s.ns := rfl
@[simp] theorem AS.setYd_c (s : AS) (σ : Store) (F : Fre) : (s.setYd σ F).c = s.c := rfl
@[simp] theorem AS.setYd_st (s : AS) (σ : Store) (F : Fre) : (s.setYd σ F).st = σ := rfl
@[simp] theorem AS.setYd_fr (s : AS) (σ : Store) (F : Fre) : (s.setYd σ F).fr = F := rfl

theorem aeff_defer {n : Nm} {e : Operand → AV} {σ : Store} {c : Call} : aeff P n e σ (.defer c) = .bad := by simp [aeff, aquiet]

theorem roundIn_FW {r : Option Nat} {n l : Nat} {f : FuncId} {tm : Array Value} {as bd : Code} {w : World} {R : Ending → World → Prop} (h : RoundIn Fence.wide 0 P l f tm as bd w R) : RoundIn (FW r) n P l f tm as bd w R :=
  ⟨trivial, fun c cs _ => by
    have := h.2 c cs (fun d hd => by cases hd)
    cases r <;> exact this⟩
theorem roundIn_wide {r : Option Nat} {n l : Nat} {f : FuncId} {tm : Array Value} {as bd : Code} {w : World} {R : Ending → World → Prop} (h : RoundIn (FW r) n P l f tm as bd w R) : RoundIn Fence.wide 0 P l f tm as bd w R :=
  ⟨trivial, fun c cs _ => by
    have := h.2 c cs (fun d hd => by cases hd)
    cases r <;> exact this⟩

theorem avail_evo {NS : Nm → Prop} {ρ' : Names} {M' : Mem} {σ σ' : Store} {w w' : World} (hev : Evo NS ρ M σ w ρ' M' σ' w') {n : Nm} (hn : ρ n = none) (hx : ¬ NS n) : ρ' n = none := by
  cases h : ρ' n with
  | none => rfl
  | some p => exact absurd (hev.names n p hn h) hx

/-- One operation: its own names are those below n; F: those that others keep. -/
theorem astep_sound {r : Rz} {n : Nm} {o : Oper} {K : AS → Prop} {Q : AExit → AS → Prop} {s : AS} {Kc : Act → World → Prop} {Qc : Exit → Act → World → Prop} {a : Act} {w : World} (hh : HoldsT r ρ M s a w)
    (hn : ∀ m, m.under n = true → ρ m = none) (hF : s.fr.Ok ρ M ∧ ∀ m, s.fr.keep m → m.under n = false) (h : astep P n o K Q s)
    (hK : ∀ s' ρ' M' a' w', K s' → HoldsT r ρ' M' s' a' w' → s'.ns = s.ns → s'.c = s.c → s'.fr.Le s.fr ∧ s'.fr.Ok ρ' M' → Evo (fun m => m.under n = true ∨ s.fr.keep m) ρ M s.st w ρ' M' s'.st w' → Kc a' w')
    (hQ : ∀ v x s' ρ' M' a' w', Q (.panic v) s' → VR ρ' M' v x → HoldsT r ρ' M' s' a' w' → s'.ns = s.ns → s'.c = s.c + 1 → s'.fr.Le s.fr ∧ s'.fr.Ok ρ' M' → Evo (fun m => m.under n = true ∨ s.fr.keep m) ρ M s.st w ρ' M' s'.st w' →
      Qc (.panic [{ v := x, recovered := false }]) a' w') : o.wpIn (FW r.rnd) 0 P a w Kc Qc := by
  refine ⟨fun _ _ => trivial, ?_⟩
  have hsnd := aeff_sound (P := P) (o := o) (n := n) (NS := fun m => m.under n = true) hh.rel hh.ev (hn n (by simp)) (by simp) (hn _ (by simp)) (by simp)
  have hnd : ∀ c, aeff P n s.ev s.st o.op ≠ .bad → o.op ≠ .defer c := fun c hb e => hb (by rw [e]; exact aeff_defer)
  have keepF : ∀ {ρ' M' σ' w'}, Evo (fun m => m.under n = true) ρ M s.st w ρ' M' σ' w' → s.fr.Le s.fr ∧ s.fr.Ok ρ' M' := fun hev => ⟨.refl _, fun m hm => avail_evo hev (hF.1.1 m hm) (by simp [hF.2 m hm]), s.fr.mono hF.1.2 hev.grows⟩
  unfold astep at h
  generalize haeff : aeff P n s.ev s.st o.op = ae at h hsnd hnd
  cases ae with
  | bad => exact h.elim
  | val v σ =>
    obtain ⟨x, w', ρ', M', hrun, hv, hr', hev⟩ := hsnd
    rw [Oper.semAt_eq _ _ _ (fun c => hnd c (by simp)), hrun]
    show Kc (a.put o.dst x) w'
    exact hK _ ρ' M' _ w' h ((hh.evo hev hr').put o.dst hv) (by simp) (by simp) (by simpa using keepF hev) (by simpa using hev.mono fun _ h => .inl h)
  | skip σ =>
    obtain ⟨w', ρ', M', hrun, hr', hev⟩ := hsnd
    rw [Oper.semAt_eq _ _ _ (fun c => hnd c (by simp)), hrun]
    show Kc (a.put o.dst undef) w'
    exact hK _ ρ' M' _ w' h ((hh.evo hev hr').put o.dst (.tup rfl (by simp))) (by simp) (by simp) (by simpa using keepF hev) (by simpa using hev.mono fun _ h => .inl h)
  | call f args =>
    obtain ⟨xs, hrun, hvs⟩ := hsnd
    obtain ⟨hen, hcall⟩ := h
    rw [Oper.semAt_eq _ _ _ (fun c => hnd c (by simp)), hrun hen]
    refine ⟨(fun hd => by cases hd), callsIn_FW ((hcall ρ M w xs hh.rel hn hvs).mono fun e w' ⟨ae, σ', ρ', M', he, hk, hr', hev⟩ => ?_)⟩
    cases he with
    | ret hv => exact hK _ ρ' M' _ w' hk ((hh.evo hev hr').put o.dst hv) (by simp) (by simp) (by simpa using keepF hev) (by simpa using hev.mono fun _ h => .inl h)
    | panic hv =>
      have h1 := hh.evo hev hr'
      exact hQ _ _ _ ρ' M' _ w' hk hv ⟨h1.tmps, h1.rel, h1.dfs, h1.coll, h1.rnd⟩ rfl rfl (keepF hev) (hev.mono fun _ h => .inl h)
  | yield l args =>
    obtain ⟨xs, hrun, hvs⟩ := hsnd
    obtain ⟨fn, tm, as, bd, hy, hR⟩ := h ρ M w xs hh.rel hF.1 hvs
    rw [Oper.semAt_eq _ _ _ (fun c => hnd c (by simp)), hrun, hy]
    refine ⟨(fun hd => by cases hd), (roundIn_FW hR).mono fun e w' ⟨b, τ', F', ρ', M', he, hk, hf1, hf2, hr', hev⟩ => ?_⟩
    subst he
    have h1 := hh.evo hev hr'
    have h2 : HoldsT r ρ' M' (s.setYd τ' F') a w' := ⟨h1.tmps, h1.rel, h1.dfs, h1.coll, h1.rnd⟩
    exact hK _ ρ' M' _ w' hk (h2.put o.dst (.bool b)) (by simp) (by simp) (by simpa using ⟨hf1, hf2⟩) (by simpa using hev.mono fun _ h => .inr h)
  | panic v =>
    obtain ⟨x, hrun, hv⟩ := hsnd
    rw [Oper.semAt_eq _ _ _ (fun c => hnd c (by simp)), hrun]
    show Qc (.panic [{ v := x, recovered := false }]) a w
    exact hQ _ _ _ ρ M _ w h hv ⟨hh.tmps, hh.rel, hh.dfs, hh.coll, hh.rnd⟩ rfl rfl ⟨.refl _, hF.1⟩ .refl

theorem awanted_sound {r : Rz} {ops : Array Oper} {s : AS} {o : Oper} {a : Act} {w : World} {b : Bool} (hh : HoldsT r ρ M s a w) (h : awanted ops s o = some b) : Region.wanted o (yielded ops a.tmps) = b := by
  unfold awanted at h
  unfold Region.wanted yielded
  split at h
  · rename_i hg; injection h with h; subst h; simp [hg]
  · rename_i j want hg
    simp only [hg]
    split at h
    · rename_i hd; injection h with h; subst h; simp [hd]
    · rename_i d hd
      split at h
      · rename_i b' ht
        injection h with h; subst h
        obtain ⟨x, hx, hv⟩ := hh.tmps.ex ht
        have hx' : a.tmps[d]? = some x := by simpa using hx
        cases hv
        simp [hd, hx']
      · rename_i ht
        injection h with h; subst h
        obtain ⟨x, hx, hv⟩ := hh.tmps.ex ht
        have hx' : a.tmps[d]? = some x := by simpa using hx
        obtain ⟨xs, rfl, _⟩ := VR.tup_iff.1 hv
        simp [hd, hx']
      · cases h

theorem aOp_sound {r : Rz} {ops : Array Oper} {i : Nat} {K : AS → Prop} {Q : AExit → AS → Prop} {s : AS} {Kc : Act → World → Prop} {Qc : Exit → Act → World → Prop} {a : Act} {w : World} (hh : HoldsT r ρ M s a w)
    (hn : ∀ m, m.under ((s.ns.sub s.c).sub i) = true → ρ m = none) (hF : s.fr.Ok ρ M ∧ ∀ m, s.fr.keep m → m.under ((s.ns.sub s.c).sub i) = false) (h : aOp P ops Q i K s)
    (hK : ∀ s' ρ' M' a' w', K s' → HoldsT r ρ' M' s' a' w' → s'.ns = s.ns → s'.c = s.c → s'.fr.Le s.fr ∧ s'.fr.Ok ρ' M' → Evo (fun m => m.under ((s.ns.sub s.c).sub i) = true ∨ s.fr.keep m) ρ M s.st w ρ' M' s'.st w' → Kc a' w')
    (hQ : ∀ v x s' ρ' M' a' w', Q (.panic v) s' → VR ρ' M' v x → HoldsT r ρ' M' s' a' w' → s'.ns = s.ns → s'.c = s.c + 1 → s'.fr.Le s.fr ∧ s'.fr.Ok ρ' M' → Evo (fun m => m.under ((s.ns.sub s.c).sub i) = true ∨ s.fr.keep m) ρ M s.st w ρ' M' s'.st w' →
      Qc (.panic [{ v := x, recovered := false }]) a' w') : wpOpIn (FW r.rnd) 0 P ops Qc i Kc a w := by
  unfold aOp at h
  unfold wpOpIn
  split at h
  · rename_i ho; simp only [ho]; exact hK s ρ M a w h hh rfl rfl ⟨.refl _, hF.1⟩ .refl
  · rename_i o ho
    simp only [ho]
    split at h
    · rename_i hw
      rw [awanted_sound hh hw, if_pos rfl]
      exact astep_sound hh hn hF h hK hQ
    · rename_i hw
      rw [awanted_sound hh hw, if_neg (by simp)]
      exact ⟨fun _ _ => trivial, hK _ ρ M _ w h (hh.put o.dst (.tup rfl (by simp))) (by simp) (by simp) (by simpa using ⟨.refl _, hF.1⟩) (by simpa using Evo.refl)⟩
    · exact h.elim

/-- Names that code from counter c on may bind. -/
def NSc (ns : Nm) (c : Nat) (F : Fre) (n : Nm) : Prop := (∃ c', c ≤ c' ∧ n.under (ns.sub c') = true) ∨ F.keep n

def LiftQ (r : Rz) (ρ : Names) (M : Mem) (s0 : AS) (w : World) (Q : AExit → AS → Prop) : Exit → Act → World → Prop := fun e a' w' =>
  ∃ ae s' ρ' M', ExR ρ' M' e ae ∧ Q ae s' ∧ Holds r ρ' M' s' a' w' ∧ s'.ns = s0.ns ∧ s0.c ≤ s'.c ∧ s'.fr.Le s0.fr ∧ Evo (NSc s0.ns s0.c s0.fr) ρ M s0.st w ρ' M' s'.st w'

theorem not_under_other {n ns : Nm} {i j : Nat} (h : n.under (ns.sub i) = true) (hne : i ≠ j) : ¬ n.under (ns.sub j) = true := fun h' => hne (Nm.under_sub_disjoint h h')

theorem aSeq_sound {r : Rz} {ops : Array Oper} {Q : AExit → AS → Prop} {s0 : AS} {w0 : World} {ρ0 : Names} {M0 : Mem} : ∀ (l : List Oper) (i : Nat) (s : AS) (ρ : Names) (M : Mem) (a : Act) (w : World), (∀ j, l[j]? = ops[i + j]?) →
    HoldsT r ρ M s a w → s.ns = s0.ns → s.c = s0.c → (∀ c', s.c < c' → ∀ n, n.under (s.ns.sub c') = true → ρ n = none) → (∀ j, i ≤ j → ∀ n, n.under ((s.ns.sub s.c).sub j) = true → ρ n = none) →
    (s.fr.Le s0.fr ∧ s.fr.Ok ρ M ∧ ∀ m, s.fr.keep m → m.under s.ns = false) → Evo (NSc s0.ns s0.c s0.fr) ρ0 M0 s0.st w0 ρ M s.st w → aSeq P ops Q l i s →
    wpOpsIn (FW r.rnd) 0 P ops (LiftQ r ρ0 M0 s0 w0 Q) (List.range' i l.length) a w
  | [], i, s, ρ, M, a, w, hl, hh, hns, hc, ha1, ha2, hF, hev, h => by
    refine ⟨.normal, s.bump, ρ, M, .normal, h, ⟨⟨hh.tmps, hh.rel, hh.dfs, hh.coll, hh.rnd⟩, fun c' hc' n hn => ha1 c' (by simp [AS.bump] at hc'; omega) n hn, hF.2.1, hF.2.2⟩, hns, by simp [AS.bump]; omega, hF.1, hev⟩
  | o :: l, i, s, ρ, M, a, w, hl, hh, hns, hc, ha1, ha2, hF, hev, h => by
    have ho : ops[i]? = some o := by have := hl 0; simpa using this.symm
    rw [List.length_cons, List.range'_succ, wpOpsIn_cons]
    have hA : aOp P ops Q i (aSeq P ops Q l (i + 1)) s := by
      unfold aOp; simp only [ho]; exact h
    have hFd : ∀ m, s.fr.keep m → ∀ k, m.under (s.ns.sub k) = false := fun m hm k => by
      cases hx : m.under (s.ns.sub k) with
      | false => rfl
      | true => have := Nm.under_of_sub hx; rw [hF.2.2 m hm] at this; cases this
    have hFn : s.fr.Ok ρ M ∧ ∀ m, s.fr.keep m → m.under ((s.ns.sub s.c).sub i) = false := ⟨hF.2.1, fun m hm => by
      cases hx : m.under ((s.ns.sub s.c).sub i) with
      | false => rfl
      | true => have := Nm.under_of_sub hx; rw [hFd m hm] at this; cases this⟩
    have hN : ∀ m, (m.under ((s.ns.sub s.c).sub i) = true ∨ s.fr.keep m) → NSc s0.ns s0.c s0.fr m := fun m hm => hm.elim (fun hm => .inl ⟨s.c, by omega, by rw [← hns]; exact Nm.under_of_sub hm⟩) (fun hm => .inr (hF.1 m hm))
    have fresh : ∀ {ρ' : Names} {M' : Mem} {σ' : Store} {w' : World} {n : Nm}, Evo (fun m => m.under ((s.ns.sub s.c).sub i) = true ∨ s.fr.keep m) ρ M s.st w ρ' M' σ' w' → ρ n = none → ¬ n.under ((s.ns.sub s.c).sub i) = true → ¬ s.fr.keep n → ρ' n = none := fun hev hn h1 h2 =>
      avail_evo hev hn (fun hx => hx.elim h1 h2)
    refine aOp_sound hh (ha2 i (Nat.le_refl _)) hFn hA (fun s' ρ' M' a' w' hk hh' hns' hc' hf' hev' => ?_) (fun v x s' ρ' M' a' w' hq hv hh' hns' hc' hf' hev' => ?_)
    · refine aSeq_sound l (i + 1) s' ρ' M' a' w' (fun j => by have := hl (j + 1); simpa [Nat.add_assoc, Nat.add_comm 1 j] using this) hh' (hns'.trans hns) (hc'.trans hc) (fun c' hc'' n hn => ?_) (fun j hj n hn => ?_)
        ⟨hf'.1.trans hF.1, hf'.2, fun m hm => by rw [hns']; exact hF.2.2 m (hf'.1 m hm)⟩ (hev.trans (hev'.mono hN)) hk
      · rw [hns'] at hn; rw [hc'] at hc''
        exact fresh hev' (ha1 c' hc'' n hn) (fun hx => not_under_other (Nm.under_of_sub hx) (by omega) hn) (fun hx => by rw [hFd n hx] at hn; cases hn)
      · rw [hns', hc'] at hn
        exact fresh hev' (ha2 j (by omega) n hn) (fun hx => not_under_other hx (by omega) hn) (fun hx => by have := Nm.under_of_sub hn; rw [hFd n hx] at this; cases this)
    · refine ⟨.panic v, s', ρ', M', .panic hv, hq, ⟨hh', fun c' hc'' n hn => ?_, hf'.2, fun m hm => by rw [hns']; exact hF.2.2 m (hf'.1 m hm)⟩, hns'.trans hns, by omega, hf'.1.trans hF.1, hev.trans (hev'.mono hN)⟩
      rw [hns'] at hn; rw [hc'] at hc''
      exact fresh hev' (ha1 c' (by omega) n hn) (fun hx => not_under_other (Nm.under_of_sub hx) (by omega) hn) (fun hx => by rw [hFd n hx] at hn; cases hn)

theorem awAny_sound {r : Rz} {ops : Array Oper} {Q : AExit → AS → Prop} {s0 : AS} {w0 : World} {ρ0 : Names} {M0 : Mem} : ∀ (fuel : Nat) (listed : Array Bool) (s : AS) (ρ : Names) (M : Mem) (a : Act) (w : World),
    HoldsT r ρ M s a w → s.ns = s0.ns → s.c = s0.c → (∀ c', s.c < c' → ∀ n, n.under (s.ns.sub c') = true → ρ n = none) → (∀ j, listed.getD j true = false → ∀ n, n.under ((s.ns.sub s.c).sub j) = true → ρ n = none) →
    (s.fr.Le s0.fr ∧ s.fr.Ok ρ M ∧ ∀ m, s.fr.keep m → m.under s.ns = false) → Evo (NSc s0.ns s0.c s0.fr) ρ0 M0 s0.st w0 ρ M s.st w → awAny P ops Q fuel listed s →
    wpAnyIn (FW r.rnd) 0 P .any ops (LiftQ r ρ0 M0 s0 w0 Q) fuel listed a w := by
  intro fuel
  induction fuel with
  | zero =>
    intro listed s ρ M a w hh hns hc ha1 ha2 hF hev h
    exact ⟨h.1, .normal, s.bump, ρ, M, .normal, h.2, ⟨⟨hh.tmps, hh.rel, hh.dfs, hh.coll, hh.rnd⟩, fun c' hc' n hn => ha1 c' (by simp [AS.bump] at hc'; omega) n hn, hF.2.1, hF.2.2⟩, hns, by simp [AS.bump]; omega, hF.1, hev⟩
  | succ fuel ih =>
    intro listed s ρ M a w hh hns hc ha1 ha2 hF hev h
    refine ⟨fun h0 => ⟨.normal, s.bump, ρ, M, .normal, h.1 h0, ⟨⟨hh.tmps, hh.rel, hh.dfs, hh.coll, hh.rnd⟩, fun c' hc' n hn => ha1 c' (by simp [AS.bump] at hc'; omega) n hn, hF.2.1, hF.2.2⟩, hns, by simp [AS.bump]; omega, hF.1, hev⟩, fun i hi => ?_⟩
    have hu : listed.getD i true = false := (mem_ready.1 hi).1
    have hFd : ∀ m, s.fr.keep m → ∀ k, m.under (s.ns.sub k) = false := fun m hm k => by
      cases hx : m.under (s.ns.sub k) with
      | false => rfl
      | true => have := Nm.under_of_sub hx; rw [hF.2.2 m hm] at this; cases this
    have hFn : s.fr.Ok ρ M ∧ ∀ m, s.fr.keep m → m.under ((s.ns.sub s.c).sub i) = false := ⟨hF.2.1, fun m hm => by
      cases hx : m.under ((s.ns.sub s.c).sub i) with
      | false => rfl
      | true => have := Nm.under_of_sub hx; rw [hFd m hm] at this; cases this⟩
    have hN : ∀ m, (m.under ((s.ns.sub s.c).sub i) = true ∨ s.fr.keep m) → NSc s0.ns s0.c s0.fr m := fun m hm => hm.elim (fun hm => .inl ⟨s.c, by omega, by rw [← hns]; exact Nm.under_of_sub hm⟩) (fun hm => .inr (hF.1 m hm))
    have fresh : ∀ {ρ' : Names} {M' : Mem} {σ' : Store} {w' : World} {n : Nm}, Evo (fun m => m.under ((s.ns.sub s.c).sub i) = true ∨ s.fr.keep m) ρ M s.st w ρ' M' σ' w' → ρ n = none → ¬ n.under ((s.ns.sub s.c).sub i) = true → ¬ s.fr.keep n → ρ' n = none := fun hev hn h1 h2 =>
      avail_evo hev hn (fun hx => hx.elim h1 h2)
    refine aOp_sound hh (ha2 i hu) hFn (h.2 i hi) (fun s' ρ' M' a' w' hk hh' hns' hc' hf' hev' => ?_) (fun v x s' ρ' M' a' w' hq hv hh' hns' hc' hf' hev' => ?_)
    · refine ih (listed.setIfInBounds i true) s' ρ' M' a' w' hh' (hns'.trans hns) (hc'.trans hc) (fun c' hc'' n hn => ?_) (fun j hj n hn => ?_)
        ⟨hf'.1.trans hF.1, hf'.2, fun m hm => by rw [hns']; exact hF.2.2 m (hf'.1 m hm)⟩ (hev.trans (hev'.mono hN)) hk
      · rw [hns'] at hn; rw [hc'] at hc''
        exact fresh hev' (ha1 c' hc'' n hn) (fun hx => not_under_other (Nm.under_of_sub hx) (by omega) hn) (fun hx => by rw [hFd n hx] at hn; cases hn)
      · rw [hns', hc'] at hn
        have hji : i ≠ j := fun e => by
          subst e
          simp only [Array.getD_eq_getD_getElem?, Array.getElem?_setIfInBounds, if_true] at hj
          split at hj <;> simp at hj
        have hj' : listed.getD j true = false := by
          simpa [Array.getD_eq_getD_getElem?, Array.getElem?_setIfInBounds, hji] using hj
        exact fresh hev' (ha2 j hj' n hn) (fun hx => not_under_other hx hji hn) (fun hx => by have := Nm.under_of_sub hn; rw [hFd n hx] at this; cases this)
    · refine ⟨.panic v, s', ρ', M', .panic hv, hq, ⟨hh', fun c' hc'' n hn => ?_, hf'.2, fun m hm => by rw [hns']; exact hF.2.2 m (hf'.1 m hm)⟩, hns'.trans hns, by omega, hf'.1.trans hF.1, hev.trans (hev'.mono hN)⟩
      rw [hns'] at hn; rw [hc'] at hc''
      exact fresh hev' (ha1 c' (by omega) n hn) (fun hx => not_under_other (Nm.under_of_sub hx) (by omega) hn) (fun hx => by rw [hFd n hx] at hn; cases hn)

/-- A loop, its state told beside. -/
theorem wpIn_loop_ghost {F : Fence} {n : Nat} {α : Type} {c : Code} {Q : Exit → Act → World → Prop} {a : Act} {w : World} (I : α → Act → World → Prop) (μ : α → Nat) (x₀ : α) (h₀ : I x₀ a w)
    (round : ∀ x a w, I x a w → c.wpIn F n P (Exit.then (fun a' w' => ∃ y, I y a' w' ∧ μ y < μ x) Q) a w) : (Code.loop c).wpIn F n P Q a w := by
  intro b k cs hro hb hr
  have key : ∀ j x a w, μ x = j → I x a w →
      ∃ e a' w', Q e a' w' ∧ ArrivesIn (Machine.fenced P F) P (lone (b.atR a (.code c :: .inLoop c :: k)) cs w) b k cs e a' w' := by
    intro j
    induction j using Nat.strongRecOn with
    | _ j ih =>
      intro x a w hn hI
      obtain ⟨e, a₁, w₁, hq, harr⟩ := round x a w hI b (.inLoop c :: k) cs hro hb hr
      cases e with
      | normal =>
        obtain ⟨y, hI₁, hlt⟩ := hq
        obtain ⟨e₂, a₂, w₂, hq₂, harr₂⟩ := ih (μ y) (hn ▸ hlt) y a₁ w₁ rfl hI₁
        exact ⟨e₂, a₂, w₂, hq₂, .of_steps (StepsIn.trans harr (.one (fenced_calm hb hr rfl) stepR_inLoop)) harr₂⟩
      | exit id => exact ⟨_, a₁, w₁, hq, .pass (x := .inLoop c) rfl (fun _ _ => .inl (by simp)) harr⟩
      | goto l => exact ⟨_, a₁, w₁, hq, .pass (x := .inLoop c) rfl (fun _ _ => .inl (by simp)) harr⟩
      | ret => exact ⟨_, a₁, w₁, hq, .pass (x := .inLoop c) rfl (fun _ _ => .inl (by simp)) harr⟩
      | panic ch => exact ⟨_, a₁, w₁, hq, .pass (x := .inLoop c) rfl (fun _ _ => .inl (by simp)) harr⟩
      | outgrown => exact ⟨_, a₁, w₁, hq, .pass (x := .inLoop c) rfl (fun _ _ => .inl (by simp)) harr⟩
  obtain ⟨e, a', w', hq, harr⟩ := key _ x₀ a w rfl h₀
  exact ⟨e, a', w', hq, .of_steps (.one (fenced_calm hb hr rfl) stepR_loop) harr⟩

theorem VarWk.or_ {w : World} {p : Pl} {o' o : AObj} (h : VarWk o' o) (ho : OR ρ M w p o') : OR ρ M w p o := by
  rcases h with rfl | ⟨cs, cs', rfl, rfl, hle⟩
  · exact ho
  · obtain ⟨h0, xs, ys, T, hh, hv, hm⟩ := ho
    exact ⟨h0, xs, ys, T, hh, ⟨hle.vrs hv.1, hv.2⟩, hm⟩
theorem StWk.rel {τ σ' : Store} {w : World} (h : StWk τ σ') (hr : Rel ρ M τ w) : Rel ρ M σ' w ∧ ∀ n, (σ' n).isSome = true → (τ n).isSome = true := by
  have some_ : ∀ n, (σ' n).isSome = true → (τ n).isSome = true := fun n hn => by
    obtain ⟨o, ho⟩ := Option.isSome_iff_exists.1 hn
    obtain ⟨o', ho', _⟩ := h n o ho
    simp [ho']
  refine ⟨⟨hr.mem, fun n o hn => ?_, fun n m p q hn hm => hr.inj n m p q (some_ n hn) (some_ m hm)⟩, some_⟩
  obtain ⟨o', ho', hc⟩ := h n o hn
  obtain ⟨p, hp, hor⟩ := hr.lies n o' ho'
  exact ⟨p, hp, hc.or_ hor⟩
theorem StWeak.wk {ns : Nm} {σ τ σ' : Store} (h : StWeak ns σ τ σ') (hf : ∀ n, n.under ns = true → σ n = none) : StWk τ σ' := fun n o hn => by
  rcases h n with ⟨h1, h2⟩ | h1
  · rw [h2, hf n h1] at hn; cases hn
  · exact h1 o hn
theorem StWeak.rel {ns : Nm} {σ τ σ' : Store} {w : World} (h : StWeak ns σ τ σ') (hr : Rel ρ M τ w) (hf : ∀ n, n.under ns = true → σ n = none) : Rel ρ M σ' w ∧ ∀ n, (σ' n).isSome = true → (τ n).isSome = true := (h.wk hf).rel hr
theorem Evo.wk {NS : Nm → Prop} {ρ' : Names} {M' : Mem} {σ τ σ' : Store} {w w' : World} (h : Evo NS ρ M σ w ρ' M' τ w') (hs : ∀ n, (σ' n).isSome = true → (τ n).isSome = true) : Evo NS ρ M σ w ρ' M' σ' w' :=
  ⟨h.grows, h.size, h.os, h.tape, h.output, h.keep, fun b ⟨n, p, hn, hp, e⟩ => h.own b ⟨n, p, hs n hn, hp, e⟩, h.memNew, h.names, fun n hn => h.dom n (hs n hn)⟩

theorem restoreS_le {ns : Nm} {ks : List Nm} {σ τ : Store} (h : ∀ n, n.under ns = true → σ n = none) : (restoreS ns ks σ τ).le τ := fun n o hn => by
  unfold restoreS at hn
  split at hn
  · rename_i hc; rw [h n hc.1] at hn; cases hn
  · exact hn

theorem LiftQ.trans {r : Rz} {Q : AExit → AS → Prop} {s0 s1 : AS} {w0 w1 : World} {ρ0 ρ1 : Names} {M0 M1 : Mem} {e : Exit} {a : Act} {w : World} (hev : Evo (NSc s0.ns s0.c s0.fr) ρ0 M0 s0.st w0 ρ1 M1 s1.st w1) (hns : s1.ns = s0.ns) (hc : s0.c ≤ s1.c) (hf : s1.fr.Le s0.fr)
    (h : LiftQ r ρ1 M1 s1 w1 Q e a w) : LiftQ r ρ0 M0 s0 w0 Q e a w := by
  obtain ⟨ae, s', ρ', M', he, hq, hh, h1, h2, h4, h3⟩ := h
  refine ⟨ae, s', ρ', M', he, hq, hh, h1.trans hns, Nat.le_trans hc h2, h4.trans hf, hev.trans (h3.mono fun n hn => hn.imp (fun ⟨c', hc', hn⟩ => ⟨c', by omega, by rw [← hns]; exact hn⟩) (hf n))⟩

/-! ### Ranges over functions: memory -/
/-- 'Evo', but for block l. -/
structure EvoL (NS : Nm → Prop) (l : Nat) (ρ : Names) (M : Mem) (σ : Store) (w : World) (ρ' : Names) (M' : Mem) (σ' : Store) (w' : World) : Prop where
  grows : Grows ρ M ρ' M'
  size : w.heap.size ≤ w'.heap.size
  os : w'.os = w.os
  tape : w'.tape = w.tape
  output : w'.output = w.output
  keep : ∀ b, b < w.heap.size → ¬ Owned ρ σ b → b ≠ l → w'.heap[b]? = w.heap[b]?
  own : ∀ b, Owned ρ' σ' b → w.heap.size ≤ b ∨ Owned ρ σ b
  memNew : ∀ a, (M' a).isSome = true → (M a).isSome = true ∨ w.heap.size ≤ a.block ∨ Owned ρ σ a.block
  names : ∀ n p, ρ n = none → ρ' n = some p → NS n
  dom : ∀ n, (σ' n).isSome = true → (σ n).isSome = true ∨ NS n
theorem Evo.toL {NS : Nm → Prop} {l : Nat} {ρ' : Names} {M' : Mem} {σ σ' : Store} {w w' : World} (h : Evo NS ρ M σ w ρ' M' σ' w') : EvoL NS l ρ M σ w ρ' M' σ' w' :=
  ⟨h.grows, h.size, h.os, h.tape, h.output, fun b hb hn _ => h.keep b hb hn, h.own, h.memNew, h.names, h.dom⟩
theorem EvoL.trans {NS : Nm → Prop} {l : Nat} {ρ' ρ'' : Names} {M' M'' : Mem} {σ σ' σ'' : Store} {w w' w'' : World} (h : EvoL NS l ρ M σ w ρ' M' σ' w') (h' : EvoL NS l ρ' M' σ' w' ρ'' M'' σ'' w'') :
    EvoL NS l ρ M σ w ρ'' M'' σ'' w'' := by
  refine ⟨h.grows.trans h'.grows, Nat.le_trans h.size h'.size, h'.os.trans h.os, h'.tape.trans h.tape, h'.output.trans h.output, fun b hb hn hl => ?_, fun b hb => ?_, fun a ha => ?_, fun n p hn hp => ?_, fun n hn => (h'.dom n hn).elim (h.dom n) .inr⟩
  · rw [h'.keep b (Nat.lt_of_lt_of_le hb h.size) (fun ho => ?_) hl, h.keep b hb hn hl]
    rcases h.own b ho with h1 | h1
    · omega
    · exact hn h1
  · rcases h'.own b hb with h1 | h1
    · exact .inl (Nat.le_trans h.size h1)
    · exact h.own b h1
  · rcases h'.memNew a ha with h1 | h1 | h1
    · exact h.memNew a h1
    · exact .inr (.inl (Nat.le_trans h.size h1))
    · exact .inr (h.own _ h1)
  · by_cases hq : ρ' n = none
    · exact h'.names n p hq hp
    · obtain ⟨q, hq'⟩ := Option.ne_none_iff_exists'.1 hq
      exact h.names n q hn hq'
theorem EvoL.putObj {NS : Nm → Prop} {l : Nat} {σ : Store} {w : World} (o : Obj) : EvoL NS l ρ M σ w ρ M σ (w.putObj l o) :=
  ⟨.refl, by simp, rfl, rfl, rfl, fun b _ _ hl => World.putObj_heap_other hl, fun _ h => .inr h, fun _ h => .inl h, fun n p h h' => (by rw [h] at h'; cases h'), fun _ h => .inl h⟩
theorem EvoL.mono {NS NS' : Nm → Prop} {l : Nat} {ρ' : Names} {M' : Mem} {σ σ' : Store} {w w' : World} (hN : ∀ n, NS n → NS' n) (h : EvoL NS l ρ M σ w ρ' M' σ' w') : EvoL NS' l ρ M σ w ρ' M' σ' w' :=
  ⟨h.grows, h.size, h.os, h.tape, h.output, h.keep, h.own, h.memNew, fun n p a b => hN n (h.names n p a b), fun n hn => (h.dom n hn).imp id (hN n)⟩
theorem EvoL.wk {NS : Nm → Prop} {l : Nat} {ρ' : Names} {M' : Mem} {σ τ σ' : Store} {w w' : World} (h : EvoL NS l ρ M σ w ρ' M' τ w') (hs : ∀ n, (σ' n).isSome = true → (τ n).isSome = true) : EvoL NS l ρ M σ w ρ' M' σ' w' :=
  ⟨h.grows, h.size, h.os, h.tape, h.output, h.keep, fun b ⟨n, p, hn, hp, e⟩ => h.own b ⟨n, p, hs n hn, hp, e⟩, h.memNew, h.names, fun n hn => h.dom n (hs n hn)⟩
theorem Evo.putNew {NS : Nm → Prop} {l : Nat} {ρ' : Names} {M' : Mem} {σ σ' : Store} {w w' : World} (o : Obj) (h : Evo NS ρ M σ w ρ' M' σ' w') (hl : w.heap.size ≤ l) : Evo NS ρ M σ w ρ' M' σ' (w'.putObj l o) :=
  ⟨h.grows, by simpa using h.size, h.os, h.tape, h.output, fun b hb hn => by rw [World.putObj_heap_other (by omega)]; exact h.keep b hb hn, h.own, h.memNew, h.names, h.dom⟩
/-- A loop's record turns: the variables do not see it. -/
theorem Rel.putObj {σ : Store} {w : World} {l : Nat} {rec : Loop} (o : Obj) (hr : Rel ρ M σ w) (hl : w.heap[l]? = some (.loop rec)) (hn : ¬ Owned ρ σ l) : Rel ρ M σ (w.putObj l o) := by
  refine hr.stay .refl (fun a x hx => ?_) (fun n p hs hp => ⟨World.putObj_heap_other fun e => hn ⟨n, p, hs, hp, e⟩, fun _ _ h => h⟩)
  have h1 := hr.mem a x hx
  have hne : a.block ≠ l := fun e => by unfold World.cell? at h1; rw [e, hl] at h1; simp at h1
  rw [← h1]; unfold World.cell?; rw [World.putObj_heap_other hne]
theorem Rel.alloc_other {NS : Nm → Prop} {σ : Store} {w : World} (o : Obj) (h : Rel ρ M σ w) : Rel ρ M σ (w.alloc o) ∧ Evo NS ρ M σ w ρ M σ (w.alloc o) := by
  refine ⟨h.stay .refl (fun a x hx => cell?_alloc_mono (h.mem a x hx)) (fun n p hs hp => ⟨heap_alloc_old _ _ (h.owned_lt ⟨n, p, hs, hp, rfl⟩), fun _ _ h => h⟩), ?_⟩
  exact ⟨.refl, by simp, rfl, rfl, rfl, fun b hb _ => heap_alloc_old _ _ hb, fun _ h => .inr h, fun _ h => .inl h, fun n p h h' => (by rw [h] at h'; cases h'), fun _ h => .inl h⟩

/-- What a part of the store has become, within the whole. -/
theorem frame_sound {NS : Nm → Prop} {τ σ σ2 : Store} {nl : Nm} {l : Nat} {q o' : Obj} {ρ2 : Names} {M2 : Mem} {w w4 : World} (hr : Rel ρ M τ w) (hle : (σ.up nl (.other q)).le τ) (hσl : σ nl = none) (hρl : ∃ p, ρ nl = some p ∧ p.b = l)
    (hev : EvoL NS l ρ M σ w ρ2 M2 σ2 w4) (hr2 : Rel ρ2 M2 σ2 w4) (hl : w4.heap[l]? = some o') :
    Rel ρ2 M2 (frameS τ (σ.up nl (.other q)) (σ2.up nl (.other o'))) w4 ∧ Evo NS ρ M τ w ρ2 M2 (frameS τ (σ.up nl (.other q)) (σ2.up nl (.other o'))) w4 := by
  obtain ⟨pl, hpl, hplb⟩ := hρl
  have hτl : τ nl = some (.other q) := hle nl _ (by simp)
  have hστ : ∀ n o, σ n = some o → τ n = some o := fun n o hn => hle n o (by
    have hne : n ≠ nl := fun e => by subst e; rw [hσl] at hn; cases hn
    rw [Store.up_get, if_neg hne]; exact hn)
  have hllt : l < w.heap.size := hplb ▸ hr.lt hτl hpl
  have hnl : ¬ Owned ρ σ l := fun ⟨n, p, hs, hp, e⟩ => by
    obtain ⟨o1, ho1⟩ := Option.isSome_iff_exists.1 hs
    have hn := hr.inj n nl p pl (by simp [hστ n o1 ho1]) (by simp [hτl]) hp hpl (by rw [e, hplb])
    subst hn; rw [hσl] at ho1; cases ho1
  have hnl2 : ¬ Owned ρ2 σ2 l := fun h => (hev.own l h).elim (fun h => by omega) hnl
  have hσ2l : σ2 nl = none := by
    cases h : σ2 nl with
    | none => rfl
    | some x => exact absurd ⟨nl, pl, by simp [h], hev.grows.names _ _ hpl, hplb⟩ hnl2
  have hstay : ∀ n p, (τ n).isSome = true → ρ n = some p → σ n = none → n ≠ nl → p.b < w.heap.size ∧ ¬ Owned ρ σ p.b ∧ p.b ≠ l := fun n p hs hp hn hne => by
    obtain ⟨x, hx⟩ := Option.isSome_iff_exists.1 hs
    refine ⟨hr.lt hx hp, fun ⟨m, p', hm, hp', e⟩ => ?_, fun e => hne (hr.inj n nl p pl hs (by simp [hτl]) hp hpl (by rw [e, hplb]))⟩
    obtain ⟨x', hx'⟩ := Option.isSome_iff_exists.1 hm
    have := hr.inj m n p' p (by simp [hστ m x' hx']) hs hp' hp e
    subst this; rw [hn] at hx'; cases hx'
  -- the three kinds of names
  have kinds : ∀ n x, frameS τ (σ.up nl (.other q)) (σ2.up nl (.other o')) n = some x →
      (n = nl ∧ x = .other o') ∨ (n ≠ nl ∧ σ n = none ∧ τ n = some x) ∨ (n ≠ nl ∧ σ2 n = some x) := fun n x hx => by
    unfold frameS at hx
    by_cases e : n = nl
    · subst e; simp at hx; exact .inl ⟨rfl, hx.symm⟩
    · simp only [Store.up_get, if_neg e] at hx
      split at hx
      · rename_i hc; exact .inr (.inl ⟨e, by simpa using hc.1, hx⟩)
      · exact .inr (.inr ⟨e, hx⟩)
  have place : ∀ n x, frameS τ (σ.up nl (.other q)) (σ2.up nl (.other o')) n = some x → ∃ p, ρ2 n = some p ∧ OR ρ2 M2 w4 p x ∧
      ((n = nl ∧ p.b = l) ∨ (n ≠ nl ∧ σ n = none ∧ (τ n).isSome = true ∧ ρ n = some p) ∨ (n ≠ nl ∧ (σ2 n).isSome = true)) := fun n x hx => by
    rcases kinds n x hx with ⟨rfl, rfl⟩ | ⟨hne, hn, ht⟩ | ⟨hne, ht⟩
    · exact ⟨pl, hev.grows.names _ _ hpl, by show w4.heap[pl.b]? = some o'; rw [hplb]; exact hl, .inl ⟨rfl, hplb⟩⟩
    · obtain ⟨p, hp, hor⟩ := hr.lies n x ht
      obtain ⟨h1, h2, h3⟩ := hstay n p (by simp [ht]) hp hn hne
      refine ⟨p, hev.grows.names _ _ hp, hor.mono hev.grows (hev.keep _ h1 h2 h3) (fun a ha hs => ?_), .inr (.inl ⟨hne, hn, by simp [ht], hp⟩)⟩
      rcases hev.memNew a hs with h | h | h
      · exact h
      · omega
      · rw [ha] at h; exact absurd h h2
    · obtain ⟨p, hp, hor⟩ := hr2.lies n x ht
      exact ⟨p, hp, hor, .inr (.inr ⟨hne, by simp [ht]⟩)⟩
  have own2 : ∀ n p, (σ2 n).isSome = true → ρ2 n = some p → p.b ≠ l ∧ (w.heap.size ≤ p.b ∨ Owned ρ σ p.b) := fun n p hs hp =>
    ⟨fun e => hnl2 ⟨n, p, hs, hp, e⟩, hev.own p.b ⟨n, p, hs, hp, rfl⟩⟩
  refine ⟨⟨hr2.mem, fun n x hx => ?_, fun n m p p' hn hm hp hp' e => ?_⟩, hev.grows, hev.size, hev.os, hev.tape, hev.output, fun b hb hno => ?_, fun b hb => ?_, fun a ha => ?_, hev.names, fun n hn => ?_⟩
  · obtain ⟨p, hp, hor, _⟩ := place n x hx; exact ⟨p, hp, hor⟩
  · obtain ⟨x, hx⟩ := Option.isSome_iff_exists.1 hn
    obtain ⟨y, hy⟩ := Option.isSome_iff_exists.1 hm
    obtain ⟨p1, hp1, _, k1⟩ := place n x hx
    obtain ⟨p2, hp2, _, k2⟩ := place m y hy
    rw [hp] at hp1; injection hp1 with hp1; subst hp1
    rw [hp'] at hp2; injection hp2 with hp2; subst hp2
    rcases k1 with ⟨rfl, e1⟩ | ⟨n1, s1, t1, q1⟩ | ⟨n1, s1⟩ <;> rcases k2 with ⟨rfl, e2⟩ | ⟨n2, s2, t2, q2⟩ | ⟨n2, s2⟩
    · rfl
    · exact absurd (by rw [← e, e1]) (hstay m p' t2 q2 s2 n2).2.2
    · exact absurd (by rw [← e, e1]) (own2 m p' s2 hp').1
    · exact absurd (by rw [e, e2]) (hstay n p t1 q1 s1 n1).2.2
    · exact hr.inj n m p p' t1 t2 q1 q2 e
    · obtain ⟨g1, g2, g3⟩ := hstay n p t1 q1 s1 n1
      rcases (own2 m p' s2 hp').2 with h | h
      · omega
      · rw [← e] at h; exact absurd h g2
    · exact absurd (by rw [e, e2]) (own2 n p s1 hp).1
    · obtain ⟨g1, g2, g3⟩ := hstay m p' t2 q2 s2 n2
      rcases (own2 n p s1 hp).2 with h | h
      · omega
      · rw [e] at h; exact absurd h g2
    · exact hr2.inj n m p p' s1 s2 hp hp' e
  · refine hev.keep b hb (fun ⟨n, p, hs, hp, e⟩ => ?_) (fun e => hno ⟨nl, pl, by simp [hτl], hpl, by rw [hplb, e]⟩)
    obtain ⟨x, hx⟩ := Option.isSome_iff_exists.1 hs
    exact hno ⟨n, p, by simp [hστ n x hx], hp, e⟩
  · obtain ⟨n, p, hs, hp, rfl⟩ := hb
    obtain ⟨x, hx⟩ := Option.isSome_iff_exists.1 hs
    obtain ⟨p1, hp1, _, k1⟩ := place n x hx
    rw [hp] at hp1; injection hp1 with hp1; subst hp1
    rcases k1 with ⟨rfl, e1⟩ | ⟨n1, s1, t1, q1⟩ | ⟨n1, s1⟩
    · exact .inr ⟨n, pl, by simp [hτl], hpl, by rw [hplb, e1]⟩
    · exact .inr ⟨n, p, t1, q1, rfl⟩
    · rcases (own2 n p s1 hp).2 with h | ⟨m, q, hm, hq, e⟩
      · exact .inl h
      · obtain ⟨x', hx'⟩ := Option.isSome_iff_exists.1 hm
        exact .inr ⟨m, q, by simp [hστ m x' hx'], hq, e⟩
  · rcases hev.memNew a ha with h | h | ⟨m, q, hm, hq, e⟩
    · exact .inl h
    · exact .inr (.inl h)
    · obtain ⟨x', hx'⟩ := Option.isSome_iff_exists.1 hm
      exact .inr (.inr ⟨m, q, by simp [hστ m x' hx'], hq, e⟩)
  · obtain ⟨x, hx⟩ := Option.isSome_iff_exists.1 hn
    rcases kinds n x hx with ⟨rfl, _⟩ | ⟨_, _, ht⟩ | ⟨_, ht⟩
    · exact .inl (by simp [hτl])
    · exact .inl (by simp [ht])
    · rcases hev.dom n (by simp [ht]) with h | h
      · obtain ⟨x', hx'⟩ := Option.isSome_iff_exists.1 h
        exact .inl (by simp [hστ n x' hx'])
      · exact .inr h

theorem blind_thenA {K : AS → Prop} {Q : AExit → AS → Prop} (h : Blind Q) : Blind (thenA K Q) := fun c s d v hq => h c s d v hq
theorem blind_inBlockA {id : Nat} {Q : AExit → AS → Prop} (h : Blind Q) : Blind (inBlockA id Q) := fun c s d v hq => h c s d v hq
theorem blind_loopG {α : Type} {S : α → AS} {μ : α → Nat} {Good : α → Prop} {ns : Nm} {c k : Nat} {a : α} {Q : AExit → AS → Prop} (h : Blind Q) : Blind (loopG S μ Good ns c k a Q) := fun p s d v hq => by
  have h := h p { s with ns := ns, c := c + 1 } d v
  cases d with
  | none => exact h hq
  | some d => exact h hq
theorem blind_roundG {J : Nat → Store → Fre → Prop} {i : Nat} {σ : Store} {s : AS} {Q : AExit → AS → Prop} : Blind (roundG J i σ s Q) := fun _ _ _ _ h => h
theorem blind_assignG {K : AS → Prop} : Blind (assignG K) := fun _ _ _ _ h => h

theorem bindT_vrs {ρ : Names} {M : Mem} : ∀ (ps : List Tmp) (y : List AV) (xs : List Value) (tm : List AV) (xt : Array Value), y.length = ps.length → VRs ρ M y xs → VRs ρ M tm xt.toList →
    VRs ρ M (bindT ps y tm) ((ps.zip xs).foldl (fun t p => t.setIfInBounds p.1 p.2) xt).toList
  | [], y, xs, tm, xt, hl, hy, ht => by simpa [bindT] using ht
  | p :: ps, v :: y, x :: xs, tm, xt, hl, hy, ht => by
    have := bindT_vrs ps y xs (tm.set p v) (xt.setIfInBounds p x) (by simpa using hl) hy.tail (by simpa using ht.set p hy.head)
    simpa [bindT] using this
  | p :: ps, [], xs, tm, xt, hl, hy, ht => by simp at hl
  | p :: ps, v :: y, [], tm, xt, hl, hy, ht => by have := hy.len; simp at this

theorem run_enterLoop_inner {w : World} {fn : FuncId} {tmps : Array Value} {ps : Array Tmp} {asg body : Code} {l : Nat} {rec : Loop} (h : w.heap[l]? = some (.loop rec)) :
    (Instr.enterLoop fn tmps ps asg body (some l)).run P w = .ok (w.heap.size, []) (w.alloc (.loop { state := .ready, pending := none, fn, tmps, params := ps, assign := asg, body, defers := rec.defers })) := by
  unfold Instr.enterLoop
  simp only [Sem.run_bind, run_getLoop h, run_newObj_alloc, Result.andThen, Sem.run_pure]

/-- The codes by which a round leaves. -/
inductive Jump : Code → AExit → Exit → Prop
  | ret : Jump .ret .ret .ret
  | exit (id : Nat) : Jump (.exit id) (.exit id) (.exit id)
  | goto (l : Nat) : Jump (.goto l) (.goto l) (.goto l)

def recOf (fn : FuncId) (tmps : Array Value) (ps : Array Tmp) (asg body : Code) (D : Nat) (st : LoopState) (pe : Option Code) : Loop :=
  { state := st, pending := pe, fn := fn, tmps := tmps, params := ps, assign := asg, body := body, defers := D }
/-- The names of the rounds from i on, and those that were kept before; what is known from the loop's beginning. -/
def rangeFre (N : Nm) (i : Nat) (ρ1 : Names) (M1 : Mem) (F : Fre) : Fre :=
  ⟨fun n => F.keep n ∨ ∃ k, i + 1 ≤ k ∧ n.under (N.sub k) = true, fun ρ M => F.base ρ M ∧ Grows ρ1 M1 ρ M, fun h g => ⟨F.mono h.1 g, h.2.trans g⟩⟩

/-- What is known when a range over a function begins. -/
structure RangeIn (r : Rz) (ρ : Names) (M : Mem) (s : AS) (a : Act) (w : World) (fn : FuncId) (ps : Array Tmp) (asg body : Code) (l : Nat) (mark : List Deferred) (w1 : World) (D : Nat) : Prop where
  run : (Instr.enterLoop fn a.tmps ps asg body r.rnd).run P w = .ok (l, mark) w1
  hl : w1.heap[l]? = some (.loop (recOf fn a.tmps ps asg body D .ready none))
  ge : w.heap.size ≤ l
  rel : Rel (ρ.up ((((s.ns.sub s.c).sub 0)).sub 1) ⟨l, 0, 0⟩) M (s.st.up (((s.ns.sub s.c).sub 0).sub 1) (.other (.loop (recOf fn a.tmps ps asg body D .ready none)))) w1
  evo : Evo (NSc s.ns s.c s.fr) ρ M s.st w (ρ.up (((s.ns.sub s.c).sub 0).sub 1) ⟨l, 0, 0⟩) M (s.st.up (((s.ns.sub s.c).sub 0).sub 1) (.other (.loop (recOf fn a.tmps ps asg body D .ready none)))) w1
  mrk : mark = [] ∨ ∃ d, mark = [{ target := .collected d, args := #[] }] ∧ w1.heap[d]? = some (.deferred (some [])) ∧ w.heap.size ≤ d ∧ d ≠ l

theorem rangeIn {r : Rz} {s : AS} {a : Act} {w : World} (hh : Holds r ρ M s a w) (fn : FuncId) (ps : Array Tmp) (asg body : Code) : ∃ l mark w1 D, RangeIn (P := P) r ρ M s a w fn ps asg body l mark w1 D := by
  have hnl : ρ (((s.ns.sub s.c).sub 0).sub 1) = none := hh.avail s.c (Nat.le_refl _) _ (by simp [Nm.under])
  have hN : NSc s.ns s.c s.fr (((s.ns.sub s.c).sub 0).sub 1) := .inl ⟨s.c, Nat.le_refl _, by simp [Nm.under]⟩
  obtain ⟨rn, z⟩ := r
  cases rn with
  | none =>
    obtain ⟨h1, e1⟩ := hh.rel.alloc_other (NS := NSc s.ns s.c s.fr) (.deferred (some []))
    have hsz : (w.alloc (.deferred (some []))).heap.size = w.heap.size + 1 := by simp
    obtain ⟨h2, e2⟩ := h1.alloc (o := .other (.loop (recOf fn a.tmps ps asg body w.heap.size .ready none))) (ob := .loop (recOf fn a.tmps ps asg body w.heap.size .ready none)) 0 hnl hN (heap_alloc_new _ _)
    rw [hsz] at h2 e2
    refine ⟨w.heap.size + 1, [{ target := .collected w.heap.size, args := #[] }], _, w.heap.size, run_enterLoop_outer fn a.tmps ps asg body, ?_, by omega, h2, e1.trans e2, .inr ⟨w.heap.size, rfl, ?_, Nat.le_refl _, by omega⟩⟩
    · have := heap_alloc_new (w.alloc (.deferred (some []))) (.loop (recOf fn a.tmps ps asg body w.heap.size .ready none)); rwa [hsz] at this
    · have := heap_alloc_old (w.alloc (.deferred (some []))) (.loop (recOf fn a.tmps ps asg body w.heap.size .ready none)) (b := w.heap.size) (by simp)
      exact this.trans (heap_alloc_new _ _)
  | some l0 =>
    obtain ⟨⟨rec, hrec⟩, _⟩ := hh.rnd l0 rfl
    obtain ⟨h2, e2⟩ := hh.rel.alloc (o := .other (.loop (recOf fn a.tmps ps asg body rec.defers .ready none))) (ob := .loop (recOf fn a.tmps ps asg body rec.defers .ready none)) 0 hnl hN (heap_alloc_new _ _)
    exact ⟨w.heap.size, [], _, rec.defers, run_enterLoop_inner hrec, heap_alloc_new _ _, Nat.le_refl _, h2, e2, .inl rfl⟩

section range
variable {r : Rz} {s : AS} {a : Act} {w : World} {fn : FuncId} {ps : Array Tmp} {asg body : Code} {l D : Nat} {mark : List Deferred} {w1 : World}

/-- The state behind a range over a function. -/
theorem range_fin (hh : Holds r ρ M s a w) (hin : RangeIn (P := P) r ρ M s a w fn ps asg body l mark w1 D) {Q : AExit → AS → Prop} {σ : Store} {F : Fre} {ρ' : Names} {M' : Mem} {w3 : World} {σ0 : Store} {rec' : Loop} (o : Obj) {ae : AExit} {e : Exit}
    (hσ0 : StWk s.st σ0) (hσl : σ (((s.ns.sub s.c).sub 0).sub 1) = none) (hrel : Rel ρ' M' (σ.up (((s.ns.sub s.c).sub 0).sub 1) (.other (.loop rec'))) w3)
    (hev : Evo (fun n => n.under (s.ns.sub s.c) = true ∨ s.fr.keep n) (ρ.up (((s.ns.sub s.c).sub 0).sub 1) ⟨l, 0, 0⟩) M (σ0.up (((s.ns.sub s.c).sub 0).sub 1) (.other (.loop (recOf fn a.tmps ps asg body D .ready none)))) w1 ρ' M' (σ.up (((s.ns.sub s.c).sub 0).sub 1) (.other (.loop rec'))) w3)
    (hF : F.Le s.fr) (hok : F.Ok ρ' M') (hq : Q ae { s with st := σ, c := s.c + 1, fr := F }) (hex : ExR ρ' M' e ae) :
    LiftQ r ρ M s w Q e { a with defers := mark ++ a.defers } (w3.putObj l o) := by
  obtain ⟨hrun, hl, hge, hrel1, hevo, hmrk⟩ := hin
  generalize hnl : (((s.ns.sub s.c).sub 0).sub 1) = nl at *
  obtain ⟨p, hp, hor⟩ := hrel.lies nl _ (Store.up_same ..)
  have hpl : p = ⟨l, 0, 0⟩ := by have := hev.grows.names nl ⟨l, 0, 0⟩ (Names.up_same ..); rw [hp] at this; injection this
  subst hpl
  have hl3 : w3.heap[l]? = some (.loop rec') := hor
  have hsle : σ.le (σ.up nl (.other (.loop rec'))) := fun n x hn => by
    have hne : n ≠ nl := fun e => by subst e; rw [hσl] at hn; cases hn
    rw [Store.up_get, if_neg hne]; exact hn
  have hnown : ¬ Owned ρ' σ l := fun ⟨n, q, hs, hq', e⟩ => by
    have h := hrel.inj n nl q ⟨l, 0, 0⟩ (hsle.isSome hs) (by simp) hq' hp e
    subst h; rw [hσl] at hs; cases hs
  have hrel4 : Rel ρ' M' σ (w3.putObj l o) := (hrel.le hsle).putObj o hl3 hnown
  have hwk1 : StWk (s.st.up nl (.other (.loop (recOf fn a.tmps ps asg body D .ready none)))) (σ0.up nl (.other (.loop (recOf fn a.tmps ps asg body D .ready none)))) := fun n x hx => by
    rw [Store.up_get] at hx ⊢
    split at hx
    · rename_i e; rw [if_pos e]; exact ⟨_, hx, .inl rfl⟩
    · rename_i e; rw [if_neg e]; exact hσ0 n x hx
  have h1 := hwk1.rel hrel1
  have hevA : Evo (NSc s.ns s.c s.fr) ρ M s.st w ρ' M' (σ.up nl (.other (.loop rec'))) w3 := (hevo.wk h1.2).trans (hev.mono fun n hn => hn.imp (fun h => ⟨s.c, Nat.le_refl _, h⟩) id)
  have hevB : Evo (NSc s.ns s.c s.fr) ρ M s.st w ρ' M' σ (w3.putObj l o) := (hevA.le hsle).putNew o hge
  refine ⟨ae, _, ρ', M', hex, hq, ⟨⟨hh.tmps.mono hevA.grows, hrel4, ?_, ?_, ?_⟩, fun c' hc' n hn => ?_, hok, fun n hn => hh.frd n (hF n hn)⟩, rfl, by simp, hF, hevB⟩
  · rcases hmrk with rfl | ⟨d, rfl, _⟩
    · exact hh.dfs.mono hevA.grows
    · exact .skip (hh.dfs.mono hevA.grows)
  · have hold : CollOk r.z ρ' σ a.defers (w3.putObj l o) := ⟨fun d hd b hb => by
      obtain ⟨g1, g2, g5⟩ := hh.coll.blk d hd b hb
      obtain ⟨g3, g4⟩ := kept_evo (hevA.le hsle) g1 g2
      have : b < w.heap.size := (Array.getElem?_eq_some_iff.1 g1).1
      exact ⟨by rw [World.putObj_heap_other (by omega)]; exact g3, g4, g5⟩, hh.coll.nod, Nat.le_trans hh.coll.le (by simpa using hevA.size)⟩
    rcases hmrk with rfl | ⟨d, rfl, hd1, hd2, hd3⟩
    · exact hold
    · refine ⟨fun x hx b hb => ?_, ?_, hold.le⟩
      case refine_2 =>
        simp only [List.cons_append, List.nil_append, List.pairwise_cons]
        refine ⟨fun d' hd' b hb hb' => ?_, hh.coll.nod⟩
        injection hb with hb; subst hb
        have := (Array.getElem?_eq_some_iff.1 (hh.coll.blk d' hd' _ hb').1).1
        omega
      simp only [List.cons_append, List.nil_append, List.mem_cons] at hx
      rcases hx with rfl | hx
      · injection hb with hb; subst hb
        have hno : ¬ Owned (ρ.up nl ⟨l, 0, 0⟩) (σ0.up nl (.other (.loop (recOf fn a.tmps ps asg body D .ready none)))) d := fun ⟨n, q, hs, hq', e⟩ => by
          by_cases e1 : n = nl
          · subst e1; rw [Names.up_same] at hq'; injection hq' with hq'; subst hq'; exact hd3 e.symm
          · rw [Store.up_get, if_neg e1] at hs; rw [Names.up_ne _ _ e1] at hq'
            obtain ⟨y, hy⟩ := Option.isSome_iff_exists.1 hs
            obtain ⟨y', hy', _⟩ := hσ0 n y hy
            have := hh.rel.lt hy' hq'
            omega
        obtain ⟨g3, g4⟩ := kept_evo (hev.le hsle) hd1 hno
        exact ⟨by rw [World.putObj_heap_other hd3]; exact g3, g4, Nat.le_trans hh.coll.le hd2⟩
      · exact hold.blk x hx b hb
  · intro l0 hl0
    obtain ⟨⟨rec, g1⟩, g2⟩ := hh.rnd l0 hl0
    obtain ⟨g3, g4⟩ := kept_evo (hevA.le hsle) g1 g2
    have : l0 < w.heap.size := (Array.getElem?_eq_some_iff.1 g1).1
    exact ⟨⟨rec, by rw [World.putObj_heap_other (by omega)]; exact g3⟩, g4⟩
  · simp only at hc' hn
    have h0 := hh.avail c' (by omega) n hn
    have hne : n ≠ nl := fun e => by
      subst e
      rw [← hnl] at hn
      have h1 : (((s.ns.sub s.c).sub 0).sub 1).under (s.ns.sub s.c) = true := by simp [Nm.under]
      exact not_under_other h1 (by omega) hn
    refine avail_evo hev (by rw [Names.up_ne _ _ hne]; exact h0) (fun hx => hx.elim (fun hx => not_under_other hx (by omega) hn) (fun hx => ?_))
    have := hh.frd n hx
    rw [Nm.under_of_sub hn] at this; cases this

end range
/-- Between two rounds. -/
def rangeJ (s : AS) (a : Act) (fn : FuncId) (ps : Array Tmp) (asg body : Code) (D : Nat) (ρ1 : Names) (M1 : Mem) (J : Nat → Store → Fre → Prop) (i : Nat) (σh : Store) (Fh : Fre) : Prop :=
  ∃ σ F, σh = σ.up (((s.ns.sub s.c).sub 0).sub 1) (.other (.loop (recOf fn a.tmps ps asg body D .ready none))) ∧ J i σ F ∧ F.Le s.fr ∧ (∀ n, n.under ((s.ns.sub s.c).sub 0) = true → σ n = none) ∧ Fh = rangeFre (s.ns.sub s.c) i ρ1 M1 F
/-- A round has left by a jump. -/
def rangeX (s : AS) (a : Act) (fn : FuncId) (ps : Array Tmp) (asg body : Code) (D : Nat) (Q : AExit → AS → Prop) (σh : Store) (F : Fre) : Prop :=
  ∃ σ c ae e, Jump c ae e ∧ σh = σ.up (((s.ns.sub s.c).sub 0).sub 1) (.other (.loop (recOf fn a.tmps ps asg body D .done (some c)))) ∧ σ (((s.ns.sub s.c).sub 0).sub 1) = none ∧ Q ae { s with st := σ, c := s.c + 1, fr := F } ∧ F.Le s.fr

theorem foldl_zip_toArray (ps : Array Tmp) (xs : List Value) (xt : Array Value) : ((ps.zip xs.toArray).foldl (fun t (p, v) => t.setIfInBounds p v) xt) = ((ps.toList.zip xs).foldl (fun t p => t.setIfInBounds p.1 p.2) xt) := by
  rw [← Array.foldl_toList]; simp

section round
variable {r : Rz} {s : AS} {a : Act} {w : World} {fn : FuncId} {ps : Array Tmp} {asg body : Code} {l D : Nat} {mark : List Deferred} {w1 : World}

/-- A round has ended: what has become of the whole store. -/
theorem round_end (hh : Holds r ρ M s a w) {i : Nat} {σ σ3 τ : Store} {F F3 : Fre} {ρa ρ3 : Names} {Ma M3 : Mem} {wa w4 : World} {o' : Obj} {ρ1 : Names} {M1 : Mem}
    (hle : (σ.up (((s.ns.sub s.c).sub 0).sub 1) (.other (.loop (recOf fn a.tmps ps asg body D .ready none)))).le τ) (hrel : Rel ρa Ma τ wa) (hok : (rangeFre (s.ns.sub s.c) i ρ1 M1 F).Ok ρa Ma) (hFle : F.Le s.fr)
    (hdrop : ∀ n, n.under ((s.ns.sub s.c).sub 0) = true → σ n = none) (hnl : ρa (((s.ns.sub s.c).sub 0).sub 1) = some ⟨l, 0, 0⟩)
    (hev : EvoL (fun n => n.under ((s.ns.sub s.c).sub (i + 1)) = true ∨ F.keep n) l ρa Ma σ wa ρ3 M3 σ3 w4) (hrel3 : Rel ρ3 M3 σ3 w4) (hl : w4.heap[l]? = some o') (hF3 : F3.Le F) (hok3 : F3.Ok ρ3 M3) :
    Rel ρ3 M3 (frameS τ (σ.up (((s.ns.sub s.c).sub 0).sub 1) (.other (.loop (recOf fn a.tmps ps asg body D .ready none)))) (σ3.up (((s.ns.sub s.c).sub 0).sub 1) (.other o'))) w4 ∧
      Evo (rangeFre (s.ns.sub s.c) i ρ1 M1 F).keep ρa Ma τ wa ρ3 M3 (frameS τ (σ.up (((s.ns.sub s.c).sub 0).sub 1) (.other (.loop (recOf fn a.tmps ps asg body D .ready none)))) (σ3.up (((s.ns.sub s.c).sub 0).sub 1) (.other o'))) w4 ∧
      (∀ n, n.under ((s.ns.sub s.c).sub 0) = true → σ3 n = none) ∧ (rangeFre (s.ns.sub s.c) (i + 1) ρ1 M1 F3).Le (rangeFre (s.ns.sub s.c) i ρ1 M1 F) ∧ (rangeFre (s.ns.sub s.c) (i + 1) ρ1 M1 F3).Ok ρ3 M3 := by
  have hnF : ∀ n k, n.under ((s.ns.sub s.c).sub k) = true → ¬ F.keep n := fun n k hn hk => by
    have := hh.frd n (hFle n hk)
    rw [Nm.under_of_sub (Nm.under_of_sub hn)] at this; cases this
  have h0 : σ (((s.ns.sub s.c).sub 0).sub 1) = none := hdrop _ (by simp)
  obtain ⟨h1, h2⟩ := frame_sound hrel hle h0 ⟨_, hnl, rfl⟩ hev hrel3 hl
  refine ⟨h1, h2.mono fun n hn => ?_, fun n hn => ?_, fun n hn => ?_, fun n hn => ?_, hok3.2, hok.2.2.trans hev.grows⟩
  · exact hn.elim (fun h => .inr ⟨i + 1, Nat.le_refl _, h⟩) .inl
  · cases hx : σ3 n with
    | none => rfl
    | some x =>
      rcases hev.dom n (by simp [hx]) with h | h | h
      · rw [hdrop n hn] at h; cases h
      · exact absurd hn (not_under_other h (by omega))
      · exact absurd h (hnF n 0 hn)
  · exact hn.elim (fun h => .inl (hF3 n h)) (fun ⟨k, hk, hu⟩ => .inr ⟨k, by omega, hu⟩)
  · rcases hn with h | ⟨k, hk, hu⟩
    · exact hok3.1 n h
    · have h4 := hok.1 n (.inr ⟨k, by omega, hu⟩)
      cases hx : ρ3 n with
      | none => rfl
      | some p =>
        rcases hev.names n p h4 hx with h | h
        · exact absurd hu (not_under_other h (by omega))
        · exact absurd h (hnF n k hu)

theorem range_round (hh : Holds r ρ M s a w) (hin : RangeIn (P := P) r ρ M s a w fn ps asg body l mark w1 D) {pl : List (Nat × Plan)} {J : Nat → Store → Fre → Prop} {ys : List (List AV)} {Q : AExit → AS → Prop}
    (ihA : ∀ (Q : AExit → AS → Prop) (s : AS), Blind Q → wpc P pl asg Q s → ∀ (r : Rz) (ρ : Names) (M : Mem) (a : Act) (w : World), Holds r ρ M s a w → asg.wpIn (FW r.rnd) 0 P (LiftQ r ρ M s w Q) a w)
    (ihB : ∀ (Q : AExit → AS → Prop) (s : AS), Blind Q → wpc P pl body Q s → ∀ (r : Rz) (ρ : Names) (M : Mem) (a : Act) (w : World), Holds r ρ M s a w → body.wpIn (FW r.rnd) 0 P (LiftQ r ρ M s w Q) a w)
    (hps : ∀ y ∈ ys, y.length = ps.size)
    (hround : ∀ i σ F y, J i σ F → ys[i]? = some y → F.Le s.fr → (∀ n, n.under ((s.ns.sub s.c).sub (i + 1)) = true → σ n = none) → wpc P pl asg (assignG (wpc P pl body (roundG J i σ s Q))) ⟨bindT ps.toList y s.tmps, σ, (s.ns.sub s.c).sub (i + 1), 0, [], F⟩)
    (i : Nat) (σh : Store) (Fh : Fre) (y : List AV) (τ : Store) (hJ : rangeJ s a fn ps asg body D (ρ.up (((s.ns.sub s.c).sub 0).sub 1) ⟨l, 0, 0⟩) M J i σh Fh) (hy : ys[i]? = some y) (hle : σh.le τ) :
    AYield P l y τ Fh fun b τ' F' => ∃ σ', τ' = frameS τ σh σ' ∧ if b = true then rangeJ s a fn ps asg body D (ρ.up (((s.ns.sub s.c).sub 0).sub 1) ⟨l, 0, 0⟩) M J (i + 1) σ' F' else rangeX s a fn ps asg body D Q σ' F' := by
  obtain ⟨σ, F, rfl, hJ, hFle, hdrop, rfl⟩ := hJ
  intro ρa Ma wa xs hrel hok hvs
  have hnl : ρa (((s.ns.sub s.c).sub 0).sub 1) = some ⟨l, 0, 0⟩ := hok.2.2.names _ _ (Names.up_same ..)
  have h0 : σ (((s.ns.sub s.c).sub 0).sub 1) = none := hdrop _ (by simp)
  have hστ : σ.le τ := fun n x hn => hle n x (by
    have hne : n ≠ (((s.ns.sub s.c).sub 0).sub 1) := fun e => by rw [e, h0] at hn; cases hn
    rw [Store.up_get, if_neg hne]; exact hn)
  have hτl := hle _ _ (Store.up_same σ (((s.ns.sub s.c).sub 0).sub 1) _)
  have hla : wa.heap[l]? = some (.loop (recOf fn a.tmps ps asg body D .ready none)) := by
    obtain ⟨p, hp, hor⟩ := hrel.lies _ _ hτl
    rw [hnl] at hp; injection hp with hp; subst hp; exact hor
  have hnown : ¬ Owned ρa σ l := fun ⟨n, q, hs, hq', e⟩ => by
    have h := hrel.inj n _ q ⟨l, 0, 0⟩ (hστ.isSome hs) (by rw [hτl]; rfl) hq' hnl e
    rw [h, h0] at hs; cases hs
  have hrelσ := hrel.le hστ
  have hgr : Grows ρ M ρa Ma := (Names.grows_up ρ M _ _ (hh.avail s.c (Nat.le_refl _) _ (by simp [Nm.under]))).trans hok.2.2
  have hlen : xs.length = ps.size := by rw [← hvs.len]; exact hps y (List.mem_of_getElem? hy)
  have hfr : ∀ n, n.under ((s.ns.sub s.c).sub (i + 1)) = true → ρa n = none := fun n hn => hok.1 n (.inr ⟨i + 1, Nat.le_refl _, hn⟩)
  have hσfr : ∀ n, n.under ((s.ns.sub s.c).sub (i + 1)) = true → σ n = none := fun n hn => by
    cases hx : σ n with
    | none => rfl
    | some x => obtain ⟨p, hp, _⟩ := hrelσ.lies n x hx; rw [hfr n hn] at hp; cases hp
  refine ⟨fn, _, asg, body, run_yield hla (by simpa [recOf] using hlen), roundIn_of_wpIn (F := Fence.wide) trivial ?_⟩
  have hH : Holds ⟨some l, 0⟩ ρa Ma ⟨bindT ps.toList y s.tmps, σ, (s.ns.sub s.c).sub (i + 1), 0, [], F⟩ { tmps := (ps.zip xs.toArray).foldl (fun t (p, v) => t.setIfInBounds p v) a.tmps, defers := [] } wa := by
    refine ⟨⟨?_, hrelσ, .nil, ⟨fun d hd => by simp at hd, .nil, Nat.zero_le _⟩, fun l0 hl0 => ?_⟩, fun c' _ n hn => hfr n (Nm.under_of_sub hn), ⟨fun n hn => hok.1 n (.inl hn), hok.2.1⟩, fun n hn => ?_⟩
    · have hb := bindT_vrs ps.toList y xs s.tmps a.tmps (by rw [hvs.len, hlen]; simp) hvs (hh.tmps.mono hgr)
      simp only
      rw [foldl_zip_toArray]; exact hb
    · injection hl0 with hl0; subst hl0; exact ⟨⟨_, hla⟩, hnown⟩
    · have hk := hh.frd n (hFle n hn)
      cases hx : n.under ((s.ns.sub s.c).sub (i + 1)) with
      | false => rfl
      | true => rw [Nm.under_of_sub (Nm.under_of_sub hx)] at hk; cases hk
  refine wpIn_mono (ihA _ _ blind_assignG (hround i σ F y hJ hy hFle hσfr) ⟨some l, 0⟩ ρa Ma _ wa hH) fun e a1 w1' hq => ?_
  obtain ⟨ae, u, ρ2, M2, hex, hq, hH1, hu1, hu2, hu3, hev1⟩ := hq
  cases hex with
  | normal =>
    obtain ⟨hl1, hno1⟩ := kept_evo hev1 hla hnown
    refine ⟨_, run_beginRound hl1 rfl, ?_⟩
    obtain ⟨busy, hbusy⟩ : ∃ busy : Loop, busy = { recOf fn a.tmps ps asg body D .ready none with state := .busy } := ⟨_, rfl⟩
    rw [← hbusy]
    have hl2 : (w1'.putObj l (.loop busy)).heap[l]? = some (.loop busy) := World.putObj_heap_same (Array.getElem?_eq_some_iff.1 hl1).1
    have hH2 : Holds ⟨some l, 0⟩ ρ2 M2 u a1 (w1'.putObj l (.loop busy)) := by
      refine ⟨⟨hH1.tmps, hH1.rel.putObj _ hl1 hno1, hH1.dfs, ⟨fun d hd b hb => ?_, hH1.coll.nod, Nat.zero_le _⟩, fun l0 hl0 => ?_⟩, hH1.avail, hH1.frs, hH1.frd⟩
      · obtain ⟨g1, g2⟩ := hH1.coll.blk d hd b hb
        have : b ≠ l := fun e => by subst e; rw [hl1] at g1; cases g1
        exact ⟨by rw [World.putObj_heap_other this]; exact g1, g2⟩
      · injection hl0 with hl0; subst hl0; exact ⟨⟨_, hl2⟩, hno1⟩
    refine wpIn_mono (ihB _ u blind_roundG hq ⟨some l, 0⟩ ρ2 M2 a1 _ hH2) fun e a2 w3 hq3 => ?_
    obtain ⟨ae3, u3, ρ3, M3, hex3, hq3, hH3, hv1, hv2, hv3, hev3⟩ := hq3
    simp only at hu1 hu2 hu3 hev1
    obtain ⟨hl3, hno3⟩ := kept_evo hev3 hl2 hno1
    have hNS1 : ∀ n, NSc ((s.ns.sub s.c).sub (i + 1)) 0 F n → (n.under ((s.ns.sub s.c).sub (i + 1)) = true ∨ F.keep n) := fun n hn => hn.imp (fun ⟨c', _, h⟩ => Nm.under_of_sub h) id
    have hNS3 : ∀ n, NSc u.ns u.c u.fr n → (n.under ((s.ns.sub s.c).sub (i + 1)) = true ∨ F.keep n) := fun n hn => hn.imp (fun ⟨c', _, h⟩ => by rw [hu1] at h; exact Nm.under_of_sub h) (hu3 n)
    -- the end, whatever way it is left
    have fin : ∀ (jump : Option Code) (σ3 : Store) (o' : Loop), o' = { busy with state := if jump.isNone then .ready else .done, pending := jump } → Rel ρ3 M3 σ3 w3 → (∀ n, (σ3 n).isSome = true → (u3.st n).isSome = true) →
        (Instr.endRound l jump).run P w3 = .ok (.bool jump.isNone) (w3.putObj l (.loop o')) ∧
        Rel ρ3 M3 (frameS τ (σ.up (((s.ns.sub s.c).sub 0).sub 1) (.other (.loop (recOf fn a.tmps ps asg body D .ready none)))) (σ3.up (((s.ns.sub s.c).sub 0).sub 1) (.other (.loop o')))) (w3.putObj l (.loop o')) ∧
        Evo (rangeFre (s.ns.sub s.c) i (ρ.up (((s.ns.sub s.c).sub 0).sub 1) ⟨l, 0, 0⟩) M F).keep ρa Ma τ wa ρ3 M3 (frameS τ (σ.up (((s.ns.sub s.c).sub 0).sub 1) (.other (.loop (recOf fn a.tmps ps asg body D .ready none)))) (σ3.up (((s.ns.sub s.c).sub 0).sub 1) (.other (.loop o')))) (w3.putObj l (.loop o')) ∧
        (∀ n, n.under ((s.ns.sub s.c).sub 0) = true → σ3 n = none) ∧ (rangeFre (s.ns.sub s.c) (i + 1) (ρ.up (((s.ns.sub s.c).sub 0).sub 1) ⟨l, 0, 0⟩) M u3.fr).Le (rangeFre (s.ns.sub s.c) i (ρ.up (((s.ns.sub s.c).sub 0).sub 1) ⟨l, 0, 0⟩) M F) ∧
        (rangeFre (s.ns.sub s.c) (i + 1) (ρ.up (((s.ns.sub s.c).sub 0).sub 1) ⟨l, 0, 0⟩) M u3.fr).Ok ρ3 M3 := by
      intro jump σ3 o' ho' hr3 hs3
      have hno3' : ¬ Owned ρ3 σ3 l := fun ⟨n, q, hs, hq', e⟩ => hno3 ⟨n, q, hs3 n hs, hq', e⟩
      have hevL : EvoL (fun n => n.under ((s.ns.sub s.c).sub (i + 1)) = true ∨ F.keep n) l ρa Ma σ wa ρ3 M3 σ3 (w3.putObj l (.loop o')) :=
        ((((hev1.mono hNS1).toL.trans (.putObj _)).trans (hev3.mono hNS3).toL).wk hs3).trans (.putObj _)
      have hrun := run_endRound (P := P) jump hl3
      rw [← ho'] at hrun
      exact ⟨hrun, round_end hh hle hrel hok hFle hdrop hnl hevL (hr3.putObj _ hl3 hno3') (World.putObj_heap_same (Array.getElem?_eq_some_iff.1 hl3).1) (hv3.trans hu3) hH3.frs⟩
    have hfst : (u3.fr).Le s.fr := (hv3.trans hu3).trans hFle
    have stop : ∀ (c : Code) (ae : AExit) (e : Exit), Jump c ae e → Q ae { s with st := u3.st, c := s.c + 1, fr := u3.fr } → ∃ v w', (Instr.endRound l (some c)).run P w3 = .ok v w' ∧
        ∃ b τ' F' ρ' M', Ending.returned v = .returned (.bool b) ∧ (∃ σ', τ' = frameS τ (σ.up (((s.ns.sub s.c).sub 0).sub 1) (.other (.loop (recOf fn a.tmps ps asg body D .ready none)))) σ' ∧
          if b = true then rangeJ s a fn ps asg body D (ρ.up (((s.ns.sub s.c).sub 0).sub 1) ⟨l, 0, 0⟩) M J (i + 1) σ' F' else rangeX s a fn ps asg body D Q σ' F') ∧
          F'.Le (rangeFre (s.ns.sub s.c) i (ρ.up (((s.ns.sub s.c).sub 0).sub 1) ⟨l, 0, 0⟩) M F) ∧ F'.Ok ρ' M' ∧ Rel ρ' M' τ' w' ∧ Evo (rangeFre (s.ns.sub s.c) i (ρ.up (((s.ns.sub s.c).sub 0).sub 1) ⟨l, 0, 0⟩) M F).keep ρa Ma τ wa ρ' M' τ' w' := by
      intro c ae e hj hQ
      obtain ⟨g1, g2, g3, g4, g5, g6⟩ := fin (some c) u3.st (recOf fn a.tmps ps asg body D .done (some c)) (by rw [hbusy]; rfl) hH3.rel (fun _ h => h)
      exact ⟨_, _, g1, false, _, u3.fr, ρ3, M3, rfl, ⟨_, rfl, by rw [if_neg (by simp)]; exact ⟨u3.st, c, ae, e, hj, rfl, g4 _ (by simp), hQ, hfst⟩⟩, fun n hn => .inl ((hv3.trans hu3) n hn), hH3.frs, g2, g3⟩
    cases hex3 with
    | normal =>
      obtain ⟨σ', hwk, hJ'⟩ := hq3
      have hrel' := hwk.rel hH3.rel hσfr
      obtain ⟨g1, g2, g3, g4, g5, g6⟩ := fin none σ' (recOf fn a.tmps ps asg body D .ready none) (by rw [hbusy]; rfl) hrel'.1 hrel'.2
      exact ⟨_, _, g1, true, _, _, ρ3, M3, rfl, ⟨_, rfl, by rw [if_pos rfl]; exact ⟨σ', u3.fr, rfl, hJ', hfst, g4, rfl⟩⟩, g5, g6, g2, g3⟩
    | exit id => exact stop _ _ _ (.exit id) hq3
    | goto t => exact stop _ _ _ (.goto t) hq3
    | ret => exact stop _ _ _ .ret hq3
    | panic hv => exact hq3.elim
  | exit id => exact hq.elim
  | goto t => exact hq.elim
  | ret => exact hq.elim
  | panic hv => exact hq.elim
end round
theorem Nm.sib (n : Nm) {i j : Nat} (h : i ≠ j) : (n.sub i).under (n.sub j) = false := by
  cases hx : (n.sub i).under (n.sub j) with
  | false => rfl
  | true => exact absurd (Nm.under_sub_disjoint (n := n.sub i) (m := n) (by simp) hx) h
theorem wpc_sound (hm : P.follows .mixedOrders = true) (pl : List (Nat × Plan)) : ∀ (c : Code) (Q : AExit → AS → Prop) (s : AS), fitsC pl c = true → Blind Q → wpc P pl c Q s → ∀ (r : Rz) (ρ : Names) (M : Mem) (a : Act) (w : World), Holds r ρ M s a w →
    c.wpIn (FW r.rnd) 0 P (LiftQ r ρ M s w Q) a w := by
  intro c
  induction c with
  | skip => exact fun Q s _ _ h r ρ M a w hh => wpIn_skip ⟨.normal, s, ρ, M, .normal, h, hh, rfl, Nat.le_refl _, .refl _, .refl⟩
  | label l => exact fun Q s _ _ h r ρ M a w hh => wpIn_label ⟨.normal, s, ρ, M, .normal, h, hh, rfl, Nat.le_refl _, .refl _, .refl⟩
  | exit id => exact fun Q s _ _ h r ρ M a w hh => wpIn_exit ⟨.exit id, s, ρ, M, .exit id, h, hh, rfl, Nat.le_refl _, .refl _, .refl⟩
  | goto l => exact fun Q s _ _ h r ρ M a w hh => wpIn_goto ⟨.goto l, s, ρ, M, .goto l, h, hh, rfl, Nat.le_refl _, .refl _, .refl⟩
  | ret => exact fun Q s _ _ h r ρ M a w hh => wpIn_ret ⟨.ret, s, ρ, M, .ret, h, hh, rfl, Nat.le_refl _, .refl _, .refl⟩
  | scope _ _ => exact fun Q s _ _ h => h.elim
  | refuse _ => exact fun Q s _ _ h => h.elim
  | region id ops draw =>
    intro Q s hf hb h r ρ M a w hh
    cases draw with
    | false =>
      refine wpIn_region ?_
      have := aSeq_sound (P := P) (r := r) (Q := Q) (ops := ops) (s0 := s) (w0 := w) (ρ0 := ρ) (M0 := M) ops.toList 0 s ρ M a w (fun j => by simp) hh.toHoldsT rfl rfl (fun c' hc' n hn => hh.avail c' (by omega) n hn)
        (fun j _ n hn => hh.avail s.c (Nat.le_refl _) n (Nm.under_of_sub hn)) ⟨.refl _, hh.frs, hh.frd⟩ .refl h
      rw [List.range_eq_range']
      simpa using this
    | true =>
      refine wpIn_region_any hm ?_
      simp only [wpc] at h
      simp only [fitsC] at hf
      cases hp : pl.lookup id with
      | none => rw [hp] at h; exact h.elim
      | some p =>
        rw [hp] at h hf
        simp only [Bool.and_eq_true, decide_eq_true_eq] at hf
        have h' := aPlan_sound (P := P) hb p ops.size (Array.replicate ops.size false) s hf.1 hf.2 h
        exact awAny_sound (P := P) (r := r) (Q := Q) (ops := ops) (s0 := s) (w0 := w) (ρ0 := ρ) (M0 := M) ops.size (Array.replicate ops.size false) s ρ M a { w with drawn := w.drawn + 1 }
          ⟨hh.tmps, hh.rel.drew _, hh.dfs, ⟨hh.coll.blk, hh.coll.nod, hh.coll.le⟩, hh.rnd⟩ rfl rfl
          (fun c' hc' n hn => hh.avail c' (by omega) n hn) (fun j _ n hn => hh.avail s.c (Nat.le_refl _) n (Nm.under_of_sub hn)) ⟨.refl _, hh.frs, hh.frd⟩ (.drew _) h'
  | seq x y ihx ihy =>
    intro Q s hf hb h r ρ M a w hh
    simp only [fitsC, Bool.and_eq_true] at hf
    refine wpIn_seq (wpIn_mono (ihx _ s hf.1 (blind_thenA hb) h r ρ M a w hh) fun e a' w' hq => ?_)
    obtain ⟨ae, s', ρ', M', he, hq, hh', h1, h2, h4, h3⟩ := hq
    cases he with
    | normal => exact wpIn_mono (ihy Q s' hf.2 hb hq r ρ' M' a' w' hh') fun e a'' w'' hl => hl.trans h3 h1 h2 h4
    | exit id => exact ⟨_, s', ρ', M', .exit id, hq, hh', h1, h2, h4, h3⟩
    | goto l => exact ⟨_, s', ρ', M', .goto l, hq, hh', h1, h2, h4, h3⟩
    | ret => exact ⟨_, s', ρ', M', .ret, hq, hh', h1, h2, h4, h3⟩
    | panic hv => exact ⟨_, s', ρ', M', .panic hv, hq, hh', h1, h2, h4, h3⟩
  | cond c x y ihx ihy =>
    intro Q s hf hb h r ρ M a w hh
    simp only [fitsC, Bool.and_eq_true] at hf
    simp only [wpc] at h
    split at h
    · rename_i t ht
      have hv := hh.ev c
      rw [ht] at hv
      generalize hac : a.eval c = ac at hv
      cases hv
      exact wpIn_cond_split hac (fun e => ihx Q s hf.1 hb (h.1 e) r ρ M a w hh) (fun e => ihy Q s hf.2 hb (h.2 e) r ρ M a w hh)
    · rename_i ht
      have hv := hh.ev c
      rw [ht] at hv
      generalize hac : a.eval c = ac at hv
      cases hv
      exact wpIn_cond_split hac (fun e => ihx Q s hf.1 hb h.1 r ρ M a w hh) (fun e => ihy Q s hf.2 hb h.2 r ρ M a w hh)
    · exact h.elim
  | block id c ih =>
    intro Q s hf hb h r ρ M a w hh
    refine wpIn_block (wpIn_mono (ih _ s hf (blind_inBlockA hb) h r ρ M a w hh) fun e a' w' hq => ?_)
    obtain ⟨ae, s', ρ', M', he, hq, hh', h1, h2, h4, h3⟩ := hq
    cases he with
    | normal => exact ⟨_, s', ρ', M', .normal, hq, hh', h1, h2, h4, h3⟩
    | exit id' =>
      simp only [inBlockA] at hq
      simp only [Exit.inBlock]
      split at hq
      · rename_i e; rw [if_pos e]; exact ⟨_, s', ρ', M', .normal, hq, hh', h1, h2, h4, h3⟩
      · rename_i e; rw [if_neg e]; exact ⟨_, s', ρ', M', .exit id', hq, hh', h1, h2, h4, h3⟩
    | goto l => exact ⟨_, s', ρ', M', .goto l, hq, hh', h1, h2, h4, h3⟩
    | ret => exact ⟨_, s', ρ', M', .ret, hq, hh', h1, h2, h4, h3⟩
    | panic hv => exact ⟨_, s', ρ', M', .panic hv, hq, hh', h1, h2, h4, h3⟩
  | loop c ih =>
    intro Q s hf hb h r ρ M a w hh
    obtain ⟨α, S, μ, Good, a0, hS, hg0, hle0, hst0, hd0, hf0, hround⟩ := h
    have hrel0 := hst0.rel hh.rel
    have hevw0 : Evo (fun _ => True) ρ M s.st w ρ M (S a0).st w := Evo.wk .refl hrel0.2
    -- the ghost: a parameter, a round's number
    refine wpIn_loop_ghost (α := α × Nat) (fun x a' w' => ∃ ρ' M', Good x.1 ∧ HoldsT r ρ' M' (S x.1) a' w' ∧ (S x.1).fr.Ok ρ' M' ∧ Evo (NSc s.ns s.c s.fr) ρ M s.st w ρ' M' (S x.1).st w' ∧
        (∀ k, x.2 ≤ k → ∀ n, n.under ((s.ns.sub s.c).sub k) = true → ρ' n = none) ∧ (∀ c', s.c < c' → ∀ n, n.under (s.ns.sub c') = true → ρ' n = none)) (fun x => μ x.1) (a0, 0)
      ⟨ρ, M, hg0, ⟨hle0.vrs hh.tmps, hrel0.1, hd0 ▸ hh.dfs, hh.coll.evo hevw0, hh.rnd.evo hevw0⟩, hf0 ▸ hh.frs, Evo.wk .refl hrel0.2, fun k _ n hn => hh.avail s.c (Nat.le_refl _) n (Nm.under_of_sub hn), fun c' hc' n hn => hh.avail c' (by omega) n hn⟩ ?_
    rintro ⟨b, k⟩ a' w' ⟨ρ', M', hI, hht, hok, hev, hfr, hfr2⟩
    simp only at hI hht hev hfr hfr2
    obtain ⟨t, ht⟩ : ∃ t, t = S b := ⟨_, rfl⟩
    have hns : t.ns = s.ns := by rw [ht]; exact (hS b hI).1
    have hc : t.c = s.c := by rw [ht]; exact (hS b hI).2.1
    have hfrt : t.fr.Le s.fr := by rw [ht]; exact (hS b hI).2.2
    rw [← ht] at hht hev hok
    have hfresh : ∀ n, n.under ((s.ns.sub s.c).sub k) = true → t.st n = none := fun n hn => by
      cases hx : t.st n with
      | none => rfl
      | some o =>
        obtain ⟨p, hp, _⟩ := hht.rel.lies n o hx
        rw [hfr k (Nat.le_refl _) n hn] at hp; cases hp
    have hround' := hround b k hI (by rw [← ht]; exact hfresh)
    rw [← ht] at hround'
    have hh1 : Holds r ρ' M' { t with ns := (s.ns.sub s.c).sub k, c := 0 } a' w' := ⟨⟨hht.tmps, hht.rel, hht.dfs, hht.coll, hht.rnd⟩, fun c' _ n hn => hfr k (Nat.le_refl _) n (Nm.under_of_sub hn), hok, fun n hn => by
      simp only at hn ⊢
      have := hh.frd n (hfrt n hn)
      cases hx : n.under ((s.ns.sub s.c).sub k) with
      | false => rfl
      | true => rw [Nm.under_of_sub (Nm.under_of_sub hx)] at this; cases this⟩
    refine wpIn_mono (ih _ _ hf (blind_loopG hb) hround' r ρ' M' a' w' hh1) fun e a'' w'' hq => ?_
    obtain ⟨ae, t', ρ'', M'', he, hq, hh', h1, h2, h4, h3⟩ := hq
    simp only at h1 h3 h4
    replace h4 := h4.trans hfrt
    replace h3 := h3.mono (NS' := NSc ((s.ns.sub s.c).sub k) 0 s.fr) fun n hn => hn.imp id (hfrt n)
    have hN : ∀ n, NSc ((s.ns.sub s.c).sub k) 0 s.fr n → n.under ((s.ns.sub s.c).sub k) = true ∨ s.fr.keep n := fun n hn => hn.imp (fun ⟨c', _, hn⟩ => Nm.under_of_sub hn) id
    have hN2 : ∀ n, NSc ((s.ns.sub s.c).sub k) 0 s.fr n → NSc s.ns s.c s.fr n := fun n hn => (hN n hn).imp (fun h => ⟨s.c, Nat.le_refl _, Nm.under_of_sub h⟩) id
    have hFd : ∀ n j, n.under (s.ns.sub j) = true → ¬ s.fr.keep n := fun n j hn hk => by
      have := hh.frd n hk
      rw [Nm.under_of_sub hn] at this; cases this
    have hev2 := hev.trans (h3.mono hN2)
    have out : ∀ n c', s.c + 1 ≤ c' → n.under (s.ns.sub c') = true → ρ'' n = none := fun n c' hc' hn =>
      avail_evo h3 (hfr2 c' (by omega) n hn) (fun hx => (hN n hx).elim (fun hx => not_under_other (Nm.under_of_sub hx) (by omega) hn) (hFd n c' hn))
    have hh2 : Holds r ρ'' M'' { t' with ns := s.ns, c := s.c + 1 } a'' w'' := ⟨⟨hh'.tmps, hh'.rel, hh'.dfs, hh'.coll, hh'.rnd⟩, fun c' hc' n hn => out n c' hc' hn, hh'.frs, fun n hn => hh.frd n (h4 n hn)⟩
    cases he with
    | normal =>
      obtain ⟨b', hgb, hμ, hle, hwk, hdd, hff⟩ := hq
      rw [← ht] at hwk
      have hrel := hwk.rel hh'.rel hfresh
      have hevw : Evo (fun _ => True) ρ'' M'' t'.st w'' ρ'' M'' (S b').st w'' := Evo.wk .refl hrel.2
      refine ⟨(b', k + 1), ⟨ρ'', M'', hgb, ⟨hle.vrs hh'.tmps, hrel.1, hdd ▸ hh'.dfs, hh'.coll.evo hevw, hh'.rnd.evo hevw⟩, by have := hh'.frs; rw [hff] at this; exact this, hev2.wk hrel.2, fun k' hk' n hn => ?_, fun c' hc' n hn => out n c' (by omega) hn⟩, hμ⟩
      exact avail_evo h3 (hfr k' (by omega) n hn) (fun hx => (hN n hx).elim (fun hx => not_under_other hx (by omega) hn) (hFd n s.c (Nm.under_of_sub hn)))
    | exit id => exact ⟨_, _, ρ'', M'', .exit id, hq, hh2, rfl, by simp, h4, hev2⟩
    | goto l => exact ⟨_, _, ρ'', M'', .goto l, hq, hh2, rfl, by simp, h4, hev2⟩
    | ret => exact ⟨_, _, ρ'', M'', .ret, hq, hh2, rfl, by simp, h4, hev2⟩
    | panic hv => exact ⟨_, _, ρ'', M'', .panic hv, hq, hh2, rfl, by simp, h4, hev2⟩
  | rangeFunc g ps asg body ihA ihB =>
    intro Q s hf hb h r ρ M a w hh
    simp only [fitsC, Bool.and_eq_true] at hf
    obtain ⟨gf, caps, ys, J, σ0, hg, hit, hwk, hJ0, hps, hround, hdone⟩ := h
    have hv := hh.ev g
    rw [hg] at hv
    generalize hag : a.eval g = ag at hv
    cases hv with
    | fn hl1 hl2 h1 h2 =>
      rename_i fx cx
      have e1 : fx = #[] := by simpa using hl1.symm
      subst e1
      refine wpIn_rangeFunc fun fn _ => ?_
      obtain ⟨l, mark, w1, D, hin⟩ := rangeIn (P := P) hh fn ps asg body
      have hcx : VRs ρ M caps cx.toList := ⟨by simpa using hl2, fun i v x hv hx => h2 i v x hv (by simpa using hx)⟩
      have hnl : ρ (((s.ns.sub s.c).sub 0).sub 1) = none := hh.avail s.c (Nat.le_refl _) _ (by simp [Nm.under])
      have hg1 : Grows ρ M (ρ.up (((s.ns.sub s.c).sub 0).sub 1) ⟨l, 0, 0⟩) M := Names.grows_up _ _ _ _ hnl
      -- the store that the loop begins with
      have hwk1 : StWk (s.st.up (((s.ns.sub s.c).sub 0).sub 1) (.other (.loop (recOf fn a.tmps ps asg body D .ready none)))) (σ0.up (((s.ns.sub s.c).sub 0).sub 1) (.other (.loop (recOf fn a.tmps ps asg body D .ready none)))) := fun n x hx => by
        rw [Store.up_get] at hx ⊢
        split at hx
        · rename_i e; rw [if_pos e]; exact ⟨_, hx, .inl rfl⟩
        · rename_i e; rw [if_neg e]; exact hwk n x hx
      have hrel1 := hwk1.rel hin.rel
      have hdrop0 : ∀ n, n.under ((s.ns.sub s.c).sub 0) = true → σ0 n = none := fun n hn => by
        cases hx : σ0 n with
        | none => rfl
        | some x =>
          obtain ⟨x', hx', _⟩ := hwk n x hx
          obtain ⟨p, hp, _⟩ := hh.rel.lies n x' hx'
          rw [hh.avail s.c (Nat.le_refl _) n (Nm.under_of_sub hn)] at hp; cases hp
      have hFd : ∀ n j, n.under (s.ns.sub j) = true → ¬ s.fr.keep n := fun n j hn hk => by
        have := hh.frd n hk
        rw [Nm.under_of_sub hn] at this; cases this
      have hcall := hit.2 l (((s.ns.sub s.c).sub 0).sub 0) (rangeJ s a fn ps asg body D (ρ.up (((s.ns.sub s.c).sub 0).sub 1) ⟨l, 0, 0⟩) M J) (rangeX s a fn ps asg body D Q)
        (fun i σh Fh hJ => by
          obtain ⟨σ, F, rfl, _, hFle, hdrop, rfl⟩ := hJ
          refine ⟨fun n hn => ?_, fun n hn => ?_⟩
          · have hne : n ≠ ((s.ns.sub s.c).sub 0).sub 1 := fun e => by subst e; rw [Nm.sib _ (by omega)] at hn; cases hn
            rw [Store.up_get, if_neg hne]; exact hdrop n (Nm.under_of_sub hn)
          · cases hx : n.under (((s.ns.sub s.c).sub 0).sub 0) with
            | false => rfl
            | true =>
              rcases hn with h | ⟨k, hk, hu⟩
              · exact absurd (hFle n h) (hFd n s.c (Nm.under_of_sub (Nm.under_of_sub hx)))
              · exact absurd (Nm.under_of_sub hx) (not_under_other hu (by omega)))
        (fun i σh Fh y τ hJ hy hle => range_round hh hin (fun Q s hb h => ihA Q s hf.1 hb h) (fun Q s hb h => ihB Q s hf.2 hb h) hps hround i σh Fh y τ hJ hy hle)
        _ (rangeFre (s.ns.sub s.c) 0 (ρ.up (((s.ns.sub s.c).sub 0).sub 1) ⟨l, 0, 0⟩) M s.fr) ⟨σ0, s.fr, rfl, hJ0, .refl _, hdrop0, rfl⟩
        (ρ.up (((s.ns.sub s.c).sub 0).sub 1) ⟨l, 0, 0⟩) M w1 (.func (.yield l) #[] #[] :: cx.toList) hrel1.1
        (fun n hn => by
          have hne : n ≠ ((s.ns.sub s.c).sub 0).sub 1 := fun e => by subst e; rw [Nm.sib _ (by omega)] at hn; cases hn
          rw [Names.up_ne _ _ hne]; exact hh.avail s.c (Nat.le_refl _) n (Nm.under_of_sub (Nm.under_of_sub hn)))
        ⟨fun n hn => by
          have hne : n ≠ ((s.ns.sub s.c).sub 0).sub 1 := fun e => by
            subst e
            rcases hn with h | ⟨k, hk, hu⟩
            · exact hFd (((s.ns.sub s.c).sub 0).sub 1) s.c (by simp [Nm.under]) h
            · exact not_under_other (n := ((s.ns.sub s.c).sub 0).sub 1) hu (j := 0) (by omega) (by simp)
          rw [Names.up_ne _ _ hne]
          rcases hn with h | ⟨k, hk, hu⟩
          · exact hh.frs.1 n h
          · exact hh.avail s.c (Nat.le_refl _) n (Nm.under_of_sub hu), s.fr.mono hh.frs.2 hg1, .refl⟩
        (.cons (.fn rfl rfl (by simp) (by simp)) (hcx.mono hg1))
      refine ⟨l, mark, w1, { target := .fn (.func gf) cx, args := #[.func (.yield l) #[] #[]] }, w1, gf, #[.func (.yield l) #[] #[]] ++ cx, w1, hin.run, ?_, fun _ _ => trivial, ?_, fun hd => (by obtain ⟨rn, z⟩ := r; cases rn <;> cases hd), ?_⟩
      · simp only [resolve, hag]
        simp [go_sem]
      · simp [invoke, enters_run hit.1]
      · have ea : (Value.func (Fn.yield l) #[] #[] :: cx.toList).toArray = #[.func (.yield l) #[] #[]] ++ cx := by apply Array.ext'; simp
        rw [ea] at hcall
        refine callsIn_FW (hcall.mono ?_)
        rintro e w3 ⟨x, σ', F', ρ', M', rfl, hJX, hF'le, hF'ok, hr3, hev3⟩
        have hevN : Evo (fun n => n.under (s.ns.sub s.c) = true ∨ s.fr.keep n) (ρ.up (((s.ns.sub s.c).sub 0).sub 1) ⟨l, 0, 0⟩) M (σ0.up (((s.ns.sub s.c).sub 0).sub 1) (.other (.loop (recOf fn a.tmps ps asg body D .ready none)))) w1 ρ' M' σ' w3 := hev3.mono fun n hn => by
          rcases hn with h | h | ⟨k, _, h⟩
          · exact .inl (Nm.under_of_sub (Nm.under_of_sub h))
          · exact .inr h
          · exact .inl (Nm.under_of_sub h)
        have hplc : ρ' (((s.ns.sub s.c).sub 0).sub 1) = some ⟨l, 0, 0⟩ := hev3.grows.names _ _ (Names.up_same ..)
        have hloop : ∀ rec, σ' (((s.ns.sub s.c).sub 0).sub 1) = some (.other (.loop rec)) → w3.heap[l]? = some (.loop rec) := fun rec hs => by
          obtain ⟨p, hp, hor⟩ := hr3.lies _ _ hs
          rw [hplc] at hp; injection hp with hp; subst hp; exact hor
        rcases hJX with ⟨σ, F, rfl, hJ, hFle, hdrop, rfl⟩ | ⟨σ, c, ae, e, hj, rfl, hσl, hQ, hFle⟩
        · have hl3 := hloop _ (Store.up_same ..)
          have hok : F.Ok ρ' M' := ⟨fun n hn => hF'ok.1 n (.inl hn), hF'ok.2.1⟩
          exact ⟨none, _, run_endLoop hl3 (by simp [recOf]), range_fin (P := P) hh hin _ hwk (hdrop _ (by simp)) hr3 hevN hFle hok (hdone σ F hJ) .normal⟩
        · have hl3 := hloop _ (Store.up_same ..)
          refine ⟨some c, _, run_endLoop hl3 (by simp [recOf]), ?_⟩
          cases hj with
          | ret => exact wpIn_ret (range_fin (P := P) hh hin _ hwk hσl hr3 hevN hFle hF'ok hQ .ret)
          | exit id => exact wpIn_exit (range_fin (P := P) hh hin _ hwk hσl hr3 hevN hFle hF'ok hQ (.exit id))
          | goto t => exact wpIn_goto (range_fin (P := P) hh hin _ hwk hσl hr3 hevN hFle hF'ok hQ (.goto t))

/-! ### Functions -/
def aresult (P : Program) (s : AS) : ResultVar → Option AV
  | .tmp t => s.tmps[t]?
  | .cell a t => match s.tmps[a]? with
    | some v => aload P s.st t v
    | none => none
def aresults (P : Program) (rs : List ResultVar) (s : AS) : Option AV :=
  match rs.mapM (aresult P s) with
  | some [v] => some v
  | some vs => some (.tup vs)
  | none => none

def bodyA (P : Program) (rs : List ResultVar) (σ : Store) (ns : Nm) (R : AEnd → Store → Prop) : AExit → AS → Prop
  | .normal, s => s.dfs = [] ∧ ∃ v, aresults P rs s = some v ∧ ∃ v' σ', AVle v v' ∧ StWeak ns σ s.st σ' ∧ R (.ret v') σ'
  | .ret, s => s.dfs = [] ∧ ∃ v, aresults P rs s = some v ∧ ∃ v' σ', AVle v v' ∧ StWeak ns σ s.st σ' ∧ R (.ret v') σ'
  | .panic v, s => s.dfs = [] ∧ ∃ v' σ', AVle v v' ∧ StWeak ns σ s.st σ' ∧ R (.panic v') σ'
  | _, _ => False

theorem aresults_sound {fn : Func} {s : AS} {a : Act} {w : World} {v : AV} (htm : VRs ρ M s.tmps a.tmps.toList) (hrl : Rel ρ M s.st w) (h : aresults P fn.results.toList s = some v) : ∃ x : Value, (results fn a.tmps).run P w = .ok x w ∧ VR ρ M v x := by
  have key : ∀ (rs : List ResultVar) (vs : List AV), rs.mapM (aresult P s) = some vs → ∃ xs : List Value, (rs.mapM (resultAt a)).run P w = .ok xs w ∧ VRs ρ M vs xs := by
    intro rs
    induction rs with
    | nil => intro vs hv; simp at hv; subst hv; exact ⟨[], by simp, .nil⟩
    | cons r rs ih =>
      intro vs hv
      simp only [List.mapM_cons, Option.bind_eq_bind, Option.pure_def] at hv
      cases hr : aresult P s r with
      | none => simp [hr] at hv
      | some v =>
        cases hrs : rs.mapM (aresult P s) with
        | none => simp [hr, hrs] at hv
        | some vs' =>
          simp [hr, hrs] at hv; subst hv
          obtain ⟨xs, hxs, hvs⟩ := ih vs' hrs
          have one : ∃ x : Value, (resultAt a r).run P w = .ok x w ∧ VR ρ M v x := by
            cases r with
            | tmp t =>
              obtain ⟨x, hx, hvx⟩ := htm.ex hr
              have hx' : a.tmps[t]? = some x := by simpa using hx
              exact ⟨x, by simp [resultAt, Array.getD_eq_getD_getElem?, hx'], hvx⟩
            | cell c t =>
              simp only [aresult] at hr
              split at hr
              · rename_i u hu
                obtain ⟨x, hx, hvx⟩ := htm.ex hu
                have hx' : a.tmps[c]? = some x := by simpa using hx
                obtain ⟨y, hy, hvy⟩ := aload_sound (P := P) hrl hvx hr
                refine ⟨y, ?_, hvy⟩
                -- the address is there
                have hp : ∃ ad, x = .pointer (some ad) := by
                  unfold aload at hr
                  have : ∃ k cs, aread s.st u k = some cs := by
                    split at hr
                    · split at hr
                      · rename_i k hk
                        cases hc : aread s.st u k with
                        | none => simp [hc] at hr
                        | some cs => exact ⟨k, cs, hc⟩
                      · cases hr
                    · split at hr
                      · rename_i hc; exact ⟨1, _, hc⟩
                      · cases hr
                    · cases hr
                  obtain ⟨k, cs, hc⟩ := this
                  obtain ⟨b, o, xs, rfl, _⟩ := aread_sound hrl hvx hc
                  exact ⟨_, rfl⟩
                obtain ⟨ad, rfl⟩ := hp
                simp only [Instr.loadAt, Instr.sureAddr, Sem.run_bind, Sem.run_pure, Result.andThen_ok] at hy
                simp [resultAt, Array.getD_eq_getD_getElem?, hx', asAddr, hy]
              · cases hr
          obtain ⟨x, hx, hvx⟩ := one
          refine ⟨x :: xs, ?_, .cons hvx hvs⟩
          simp only [List.mapM_cons, Sem.run_bind, hx, hxs, Result.andThen_ok, Sem.run_pure]
  unfold aresults at h
  cases hm : fn.results.toList.mapM (aresult P s) with
  | none => simp [hm] at h
  | some vs =>
    obtain ⟨xs, hxs, hvs⟩ := key _ _ hm
    have hrun : (results fn a.tmps).run P w = .ok (if h : xs.toArray.size = 1 then xs.toArray[0] else .tuple xs.toArray) w := by
      unfold results
      rw [Sem.run_bind]
      have : (fn.results.mapM (resultAt a)).run P w = .ok xs.toArray w := by
        rw [Array.mapM_eq_mapM_toList, Sem.run_map, hxs]
        rfl
      show ((fn.results.mapM (resultAt a)).run P w).andThen _ = _
      rw [this]
      rfl
    rw [hrun]
    rw [hm] at h
    match vs, xs, hvs, h with
    | [], [], hvs, h => simp at h; subst h; exact ⟨_, rfl, by simpa using VR.tup_iff.2 ⟨[], rfl, hvs⟩⟩
    | [v1], [x1], hvs, h => simp at h; subst h; exact ⟨_, rfl, by simpa using hvs.head⟩
    | v1 :: v2 :: vs, x1 :: x2 :: xs, hvs, h => simp at h; subst h; exact ⟨_, rfl, by simpa using VR.tup_iff.2 ⟨_, rfl, hvs⟩⟩
    | [], _ :: _, hvs, h => exact absurd hvs.len (by simp)
    | _ :: _, [], hvs, h => exact absurd hvs.len (by simp)
    | [_], _ :: _ :: _, hvs, h => exact absurd hvs.len (by simp)
    | _ :: _ :: _, [_], hvs, h => exact absurd hvs.len (by simp)

/-- The end of a frame that has nothing but marks to pass over. -/
theorem leaves_marks {z : Nat} {ρ : Names} {M : Mem} {σ : Store} {fn : Func} {tmps : Array Value} {R : Ending → World → Prop} {u : FrameMode} (hu : u ≠ .run) : ∀ (ds : List Deferred) (w : World), DfsR ρ M [] ds → CollOk z ρ σ ds w → Rel ρ M σ w →
    (∀ w', Rel ρ M σ w' → w'.heap.size = w.heap.size → (∀ b, b < z ∨ Owned ρ σ b → w'.heap[b]? = w.heap[b]?) → w'.os = w.os → w'.tape = w.tape → w'.output = w.output → LeavesIn Fence.wide 0 P fn tmps R [] u w') →
    LeavesInM Fence.wide 0 P fn tmps R ds u w := by
  intro ds
  induction ds with
  | nil => exact fun w _ _ hr h => h w hr rfl (fun _ _ => rfl) rfl rfl rfl
  | cons d ds ih =>
    intro w hd hc hr h
    cases hd with
    | skip hs =>
      rename_i b
      obtain ⟨h1, h2, h3⟩ := hc.blk _ List.mem_cons_self b rfl
      have hlt : b < w.heap.size := (Array.getElem?_eq_some_iff.1 h1).1
      have hr' : Rel ρ M σ (w.putObj b (.deferred none)) := by
        refine hr.stay .refl (fun a x hx => ?_) (fun n p hs hp => ⟨World.putObj_heap_other fun e => h2 ⟨n, p, hs, hp, e⟩, fun _ _ h => h⟩)
        have g1 := hr.mem a x hx
        have hne : a.block ≠ b := fun e => by unfold World.cell? at g1; rw [e, h1] at g1; simp at g1
        rw [← g1]; unfold World.cell?; rw [World.putObj_heap_other hne]
      refine ⟨hu, .inl ⟨b, w.putObj b (.deferred none), rfl, run_takeDeferred h1, ih _ hs ⟨fun d hd b' hb' => ?_, (List.pairwise_cons.1 hc.nod).2, by simpa using hc.le⟩ hr' fun w' g1 g2 g3 g4 g5 g6 => h w' g1 (by simpa using g2) (fun b' hb' => ?_) g4 g5 g6⟩⟩
      · obtain ⟨g1, g2, g3⟩ := hc.blk d (by simp [hd]) b' hb'
        have hne : b' ≠ b := fun e => (List.pairwise_cons.1 hc.nod).1 d hd b rfl (e ▸ hb')
        exact ⟨by rw [World.putObj_heap_other hne]; exact g1, g2, g3⟩
      · have hne : b' ≠ b := fun e => by
          rcases hb' with hb' | hb'
          · omega
          · exact h2 (e ▸ hb')
        rw [g3 b' hb', World.putObj_heap_other hne]

theorem args_vrs {ρ : Names} {M : Mem} {args : List AV} {xs : List Value} {n : Nat} (hv : VRs ρ M args xs) : VRs ρ M (args ++ List.replicate (n - args.length) (.tup [])) (xs.toArray ++ Array.replicate (n - xs.toArray.size) undef).toList := by
  have hl : args.length = xs.length := hv.len
  simp only [Array.toList_append, Array.toList_replicate, List.size_toArray, ← hl]
  refine hv.append ⟨by simp, fun i v x hv hx => ?_⟩
  rw [List.getElem?_replicate] at hv hx
  split at hv
  · rename_i hi
    rw [if_pos hi] at hx
    injection hv with hv; injection hx with hx; subst hv; subst hx
    exact .tup rfl (by simp)
  · cases hv

/-- What a function's body comes to: contracts of calls and of iterators, both. R: the ending, the store, what is kept. -/
theorem calls_of_wpc (hm : P.follows .mixedOrders = true) (pl : List (Nat × Plan)) {f : FuncId} {fn : Func} {c : Code} {args : List AV} {σ : Store} {F : Fre} {ns : Nm} {R : AEnd → Store → Fre → Prop} (hf : P.funcs[f]? = some fn) (hb : fn.body = some c) (hfit : fitsC pl c = true)
    {Q : AExit → AS → Prop} (hbl : Blind Q)
    (hQ : ∀ ae s, Q ae s → s.dfs = [] ∧ (((ae = .normal ∨ ae = .ret) ∧ ∃ v, aresults P fn.results.toList s = some v ∧ ∃ v' σ', AVle v v' ∧ StWeak ns σ s.st σ' ∧ R (.ret v') σ' s.fr) ∨ (∃ v, ae = .panic v ∧ ∃ v' σ', AVle v v' ∧ StWeak ns σ s.st σ' ∧ R (.panic v') σ' s.fr)))
    (h : wpc P pl c Q { tmps := args ++ List.replicate (fn.ntmps - args.length) (.tup []), st := σ, ns := ns, c := 0, dfs := [], fr := F })
    (hFd : ∀ n, F.keep n → n.under ns = false) {ρ : Names} {M : Mem} {w : World} {xs : List Value} (hr : Rel ρ M σ w) (hfr : ∀ n, n.under ns = true → ρ n = none) (hF : F.Ok ρ M) (hv : VRs ρ M args xs) :
    Calls P f xs.toArray w fun e w' => ∃ ae σ' F' ρ' M', EndR ρ' M' e ae ∧ R ae σ' F' ∧ F'.Le F ∧ F'.Ok ρ' M' ∧ Rel ρ' M' σ' w' ∧ Evo (fun n => n.under ns = true ∨ F.keep n) ρ M σ w ρ' M' σ' w' := by
  refine callsIn_wide (n := 0).1 (callsIn_of_wp_marks hf hb trivial ?_)
  have hh : Holds ⟨none, w.heap.size⟩ ρ M { tmps := args ++ List.replicate (fn.ntmps - args.length) (.tup []), st := σ, ns := ns, c := 0, dfs := [], fr := F } { tmps := xs.toArray ++ Array.replicate (fn.ntmps - xs.toArray.size) undef, defers := [] } w :=
    ⟨⟨args_vrs hv, hr, .nil, ⟨fun d hd => by simp at hd, .nil, Nat.le_refl _⟩, fun l hl => by cases hl⟩, fun c' _ n hn => hfr n (Nm.under_of_sub hn), hF, hFd⟩
  have hs : ∀ n, n.under ns = true → σ n = none := fun n hn => by
    cases hx : σ n with
    | none => rfl
    | some o => obtain ⟨p, hp, _⟩ := hr.lies n o hx; rw [hfr n hn] at hp; cases hp
  have hbody := wpc_sound hm pl c _ _ hfit hbl h ⟨none, w.heap.size⟩ ρ M _ w hh
  refine wpIn_mono hbody fun e a' w' hq => ?_
  obtain ⟨ae, s', ρ', M', he, hq, hh', _, _, hle, hev⟩ := hq
  obtain ⟨hd, hq⟩ := hQ ae s' hq
  have hev' : Evo (fun n => n.under ns = true ∨ F.keep n) ρ M σ w ρ' M' s'.st w' := hev.mono fun n hn => hn.imp (fun ⟨c', _, hn⟩ => Nm.under_of_sub hn) id
  have hdf : DfsR ρ' M' [] a'.defers := by have := hh'.dfs; rwa [hd] at this
  -- from the marks' world to the contract's
  have fin : ∀ σ' w'', StWeak ns σ s'.st σ' → Rel ρ' M' s'.st w'' → w''.heap.size = w'.heap.size → (∀ b, b < w.heap.size ∨ Owned ρ' s'.st b → w''.heap[b]? = w'.heap[b]?) → w''.os = w'.os → w''.tape = w'.tape → w''.output = w'.output →
      Rel ρ' M' σ' w'' ∧ Evo (fun n => n.under ns = true ∨ F.keep n) ρ M σ w ρ' M' σ' w'' := fun σ' w'' hw g1 g2 g3 g4 g5 g6 => by
    obtain ⟨h1, h2⟩ := hw.rel g1 hs
    exact ⟨h1, ⟨hev'.grows, by rw [g2]; exact hev'.size, g4.trans hev'.os, g5.trans hev'.tape, g6.trans hev'.output, fun b hb hn => by rw [g3 b (.inl hb)]; exact hev'.keep b hb hn,
      fun b ⟨n, p, hn, hp, e⟩ => hev'.own b ⟨n, p, h2 n hn, hp, e⟩, hev'.memNew, hev'.names, fun n hn => hev'.dom n (h2 n hn)⟩⟩
  have ret : ∀ v, aresults P fn.results.toList s' = some v → (∃ v' σ', AVle v v' ∧ StWeak ns σ s'.st σ' ∧ R (.ret v') σ' s'.fr) →
      LeavesInM Fence.wide 0 P fn a'.tmps (fun e w' => ∃ ae σ' F' ρ' M', EndR ρ' M' e ae ∧ R ae σ' F' ∧ F'.Le F ∧ F'.Ok ρ' M' ∧ Rel ρ' M' σ' w' ∧ Evo (fun n => n.under ns = true ∨ F.keep n) ρ M σ w ρ' M' σ' w') a'.defers .returning w' := by
    rintro v hres ⟨v', σ', hle', hw, hR⟩
    refine leaves_marks (by simp) a'.defers w' hdf hh'.coll hh'.rel fun w'' g1 g2 g3 g4 g5 g6 => ?_
    obtain ⟨x, hx, hvx⟩ := aresults_sound (P := P) hh'.tmps g1 hres
    obtain ⟨h1, h2⟩ := fin σ' w'' hw g1 g2 g3 g4 g5 g6
    exact ⟨x, hx, .ret v', σ', s'.fr, ρ', M', .ret (hle' _ _ _ hvx), hR, hle, hh'.frs, h1, h2⟩
  cases he with
  | normal =>
    rcases hq with ⟨_, v, hres, hx⟩ | ⟨v, hc, _⟩
    · exact ret v hres hx
    · cases hc
  | ret =>
    rcases hq with ⟨_, v, hres, hx⟩ | ⟨v, hc, _⟩
    · exact ret v hres hx
    · cases hc
  | exit id => rcases hq with ⟨hc | hc, _⟩ | ⟨v, hc, _⟩ <;> cases hc
  | goto l => rcases hq with ⟨hc | hc, _⟩ | ⟨v, hc, _⟩ <;> cases hc
  | panic hv =>
    rcases hq with ⟨hc | hc, _⟩ | ⟨v, hc, v', σ', hle', hw, hR⟩
    · cases hc
    · cases hc
    · injection hc with hc; subst hc
      refine leaves_marks (by simp) a'.defers w' hdf hh'.coll hh'.rel fun w'' g1 g2 g3 g4 g5 g6 => ?_
      obtain ⟨h1, h2⟩ := fin σ' w'' hw g1 g2 g3 g4 g5 g6
      exact ⟨.panic v', σ', s'.fr, ρ', M', .panic (hle' _ _ _ hv), hR, hle, hh'.frs, h1, h2⟩

theorem bodyA_blind {rs : List ResultVar} {σ : Store} {ns : Nm} {R : AEnd → Store → Prop} : Blind (bodyA P rs σ ns R) := fun c s d v hq => by cases d <;> exact hq
theorem acalls_of_wpc (hm : P.follows .mixedOrders = true) (pl : List (Nat × Plan)) {f : FuncId} {fn : Func} {c : Code} {args : List AV} {σ : Store} {ns : Nm} {R : AEnd → Store → Prop} (hf : P.funcs[f]? = some fn) (hb : fn.body = some c) (hfit : fitsC pl c = true) (hen : enters P f = true)
    (h : (∀ n, n.under ns = true → σ n = none) → wpc P pl c (bodyA P fn.results.toList σ ns R) { tmps := args ++ List.replicate (fn.ntmps - args.length) (.tup []), st := σ, ns := ns, c := 0, dfs := [], fr := Fre.none }) : ACalls P f args σ ns R := by
  refine ⟨hen, fun ρ M w xs hr hfr hv => ?_⟩
  replace h := h fun n hn => by
    cases hx : σ n with
    | none => rfl
    | some o => obtain ⟨p, hp, _⟩ := hr.lies n o hx; rw [hfr n hn] at hp; cases hp
  have := calls_of_wpc hm pl (R := fun e σ' _ => R e σ') hf hb hfit bodyA_blind (fun ae s hq => by
    cases ae with
    | normal => obtain ⟨hd, v, hv, v', σ', h1, h2, h3⟩ := hq; exact ⟨hd, .inl ⟨.inl rfl, v, hv, v', σ', h1, h2, h3⟩⟩
    | ret => obtain ⟨hd, v, hv, v', σ', h1, h2, h3⟩ := hq; exact ⟨hd, .inl ⟨.inr rfl, v, hv, v', σ', h1, h2, h3⟩⟩
    | panic v => obtain ⟨hd, v', σ', h1, h2, h3⟩ := hq; exact ⟨hd, .inr ⟨v, rfl, v', σ', h1, h2, h3⟩⟩
    | exit id => exact hq.elim
    | goto l => exact hq.elim) h (fun _ h => h.elim) hr hfr ⟨fun _ h => h.elim, trivial⟩ hv
  refine this.mono ?_
  rintro e w' ⟨ae, σ', F', ρ', M', he, hR, _, _, h1, h2⟩
  exact ⟨ae, σ', ρ', M', he, hR, h1, h2.mono fun n hn => hn.elim id (fun h => h.elim)⟩

/-- The end of an iterator. -/
def bodyI (P : Program) (rs : List ResultVar) (σ : Store) (ns : Nm) (R : Store → Fre → Prop) : AExit → AS → Prop
  | .normal, s => s.dfs = [] ∧ (∃ v, aresults P rs s = some v) ∧ ∃ σ', StWeak ns σ s.st σ' ∧ R σ' s.fr
  | .ret, s => s.dfs = [] ∧ (∃ v, aresults P rs s = some v) ∧ ∃ σ', StWeak ns σ s.st σ' ∧ R σ' s.fr
  | _, _ => False
theorem bodyI_blind {rs : List ResultVar} {σ : Store} {ns : Nm} {R : Store → Fre → Prop} : Blind (bodyI P rs σ ns R) := fun _ _ _ _ hq => hq.elim
/-- What an iterator may do to its yield, as its walk sees it. -/
def YieldOk (P : Program) (l : Nat) (ys : List (List AV)) (ns : Nm) (J : Nat → Store → Fre → Prop) (X : Store → Fre → Prop) : Prop :=
  (∀ i σ F, J i σ F → (∀ n, n.under ns = true → σ n = none) ∧ ∀ n, F.keep n → n.under ns = false) ∧
  ∀ i σ F y τ, J i σ F → ys[i]? = some y → σ.le τ → AYield P l y τ F fun b τ' F' => ∃ σ', τ' = frameS τ σ σ' ∧ if b = true then J (i + 1) σ' F' else X σ' F'
theorem aiter_run (hm : P.follows .mixedOrders = true) (pl : List (Nat × Plan)) {g : FuncId} {fn : Func} {c : Code} {caps : List AV} {ys : List (List AV)} (hf : P.funcs[g]? = some fn) (hb : fn.body = some c) (hfit : fitsC pl c = true) (hen : enters P g = true)
    {l : Nat} {ns : Nm} {J : Nat → Store → Fre → Prop} {X : Store → Fre → Prop} (hJp : ∀ i σ F, J i σ F → (∀ n, n.under ns = true → σ n = none) ∧ ∀ n, F.keep n → n.under ns = false) {σ : Store} {F : Fre} (hJ : J 0 σ F)
    (h : wpc P pl c (bodyI P fn.results.toList σ ns fun σ' F' => J ys.length σ' F' ∨ X σ' F') { tmps := (.fn (.yield l) [] [] :: caps) ++ List.replicate (fn.ntmps - (AV.fn (.yield l) [] [] :: caps).length) (.tup []), st := σ, ns := ns, c := 0, dfs := [], fr := F })
    {ρ : Names} {M : Mem} {w : World} {xs : List Value} (hr : Rel ρ M σ w) (hfr : ∀ n, n.under ns = true → ρ n = none) (hF : F.Ok ρ M) (hv : VRs ρ M (.fn (.yield l) [] [] :: caps) xs) :
    Calls P g xs.toArray w fun e w' => ∃ x σ' F' ρ' M', e = .returned x ∧ (J ys.length σ' F' ∨ X σ' F') ∧ F'.Le F ∧ F'.Ok ρ' M' ∧ Rel ρ' M' σ' w' ∧ Evo (fun n => n.under ns = true ∨ F.keep n) ρ M σ w ρ' M' σ' w' := by
  have := calls_of_wpc hm pl (R := fun e σ' F' => (∃ v, e = .ret v) ∧ (J ys.length σ' F' ∨ X σ' F')) hf hb hfit bodyI_blind (fun ae s hq => by
    cases ae with
    | normal => obtain ⟨hd, ⟨v, hv⟩, σ', h2, h3⟩ := hq; exact ⟨hd, .inl ⟨.inl rfl, v, hv, v, σ', .refl v, h2, ⟨v, rfl⟩, h3⟩⟩
    | ret => obtain ⟨hd, ⟨v, hv⟩, σ', h2, h3⟩ := hq; exact ⟨hd, .inl ⟨.inr rfl, v, hv, v, σ', .refl v, h2, ⟨v, rfl⟩, h3⟩⟩
    | panic v => exact hq.elim
    | exit id => exact hq.elim
    | goto l => exact hq.elim) h ((hJp 0 σ F hJ).2) hr hfr hF hv
  refine this.mono ?_
  rintro e w' ⟨ae, σ', F', ρ', M', he, ⟨⟨v, rfl⟩, hR⟩, h3, h4, h1, h2⟩
  cases he with
  | ret hx => exact ⟨_, σ', F', ρ', M', rfl, hR, h3, h4, h1, h2⟩
theorem aiter_of_wpc (hm : P.follows .mixedOrders = true) (pl : List (Nat × Plan)) {g : FuncId} {fn : Func} {c : Code} {caps : List AV} {ys : List (List AV)} (hf : P.funcs[g]? = some fn) (hb : fn.body = some c) (hfit : fitsC pl c = true) (hen : enters P g = true)
    (h : ∀ (l : Nat) (ns : Nm) (J : Nat → Store → Fre → Prop) (X : Store → Fre → Prop), YieldOk P l ys ns J X → ∀ σ F, J 0 σ F →
      wpc P pl c (bodyI P fn.results.toList σ ns fun σ' F' => J ys.length σ' F' ∨ X σ' F') { tmps := (.fn (.yield l) [] [] :: caps) ++ List.replicate (fn.ntmps - (AV.fn (.yield l) [] [] :: caps).length) (.tup []), st := σ, ns := ns, c := 0, dfs := [], fr := F }) : AIter P g caps ys :=
  ⟨hen, fun l ns J X hJp hy σ F hJ ρ M w xs hr hfr hF hv => aiter_run hm pl hf hb hfit hen hJp hJ (h l ns J X ⟨hJp, hy⟩ σ F hJ) hr hfr hF hv⟩
theorem fits_of {pl : List (Nat × Plan)} {b : Option Code} (h : (match b with | some c => fitsC pl c | none => true) = true) : ∀ c, b = some c → fitsC pl c = true := fun c e => by subst e; exact h
end
end Go.Abs
