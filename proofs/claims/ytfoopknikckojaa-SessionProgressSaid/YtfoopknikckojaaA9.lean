/- The walk over code, on abstract states; contracts of calls. -/
import Derived.Test.YtfoopknikckojaaA8
import Derived.OrdersIn
set_option linter.unusedVariables false
set_option linter.unusedSimpArgs false
namespace Go.Abs

/-! ### States -/
/-- A deferred call. -/
inductive ADf where
  | coll (n : Nm)
  | call (f : FuncId) (args caps : List AV)

structure AS where
  tmps : List AV
  st : Store
  ns : Nm
  c : Nat
  dfs : List ADf := []

def AS.ev (s : AS) : Operand → AV
  | .tmp t => (s.tmps[t]?).getD .any
  | .const v => ofValue v
  | .global _ => .any
  | .func f => .fn (.func f) [] []
def AS.put (s : AS) (d : Option Tmp) (v : AV) : AS := match d with
  | some d => { s with tmps := s.tmps.set d v }
  | none => s
def AS.setSt (s : AS) (σ : Store) : AS := { s with st := σ }
def AS.bump (s : AS) : AS := { s with c := s.c + 1 }

inductive AExit where
  | normal
  | exit (id : Nat)
  | goto (l : Nat)
  | ret
  | panic (v : AV)
inductive AEnd where
  | ret (v : AV)
  | panic (v : AV)

inductive DfR (ρ : Names) (M : Mem) : ADf → Deferred → Prop
  | coll {n : Nm} {p : Pl} (h : ρ n = some p) : DfR ρ M (.coll n) { target := .collected p.b, args := #[] }
  | call {f : FuncId} {args caps : List AV} {xs ys : List Value} (h1 : VRs ρ M args xs) (h2 : VRs ρ M caps ys) : DfR ρ M (.call f args caps) { target := .fn (.func f) ys.toArray, args := xs.toArray }
theorem DfR.mono {ρ ρ' : Names} {M M' : Mem} (hg : Grows ρ M ρ' M') {d : ADf} {x : Deferred} (h : DfR ρ M d x) : DfR ρ' M' d x := by
  cases h with
  | coll h => exact .coll (hg.names _ _ h)
  | call h1 h2 => exact .call (h1.mono hg) (h2.mono hg)
inductive DfsR (ρ : Names) (M : Mem) : List ADf → List Deferred → Prop
  | nil : DfsR ρ M [] []
  | cons {d : ADf} {x : Deferred} {ds : List ADf} {xs : List Deferred} (h : DfR ρ M d x) (hs : DfsR ρ M ds xs) : DfsR ρ M (d :: ds) (x :: xs)
theorem DfsR.mono {ρ ρ' : Names} {M M' : Mem} (hg : Grows ρ M ρ' M') {ds : List ADf} {xs : List Deferred} (h : DfsR ρ M ds xs) : DfsR ρ' M' ds xs := by
  induction h with
  | nil => exact .nil
  | cons h _ ih => exact .cons (h.mono hg) ih

/-- What a state tells of a frame and of memory. -/
structure HoldsT (ρ : Names) (M : Mem) (s : AS) (a : Act) (w : World) : Prop where
  tmps : VRs ρ M s.tmps a.tmps.toList
  rel : Rel ρ M s.st w
  dfs : DfsR ρ M s.dfs a.defers
structure Holds (ρ : Names) (M : Mem) (s : AS) (a : Act) (w : World) : Prop extends HoldsT ρ M s a w where
  avail : ∀ c', s.c ≤ c' → ∀ n, n.under (s.ns.sub c') = true → ρ n = none

theorem HoldsT.ev {ρ : Names} {M : Mem} {s : AS} {a : Act} {w : World} (h : HoldsT ρ M s a w) (x : Operand) : VR ρ M (s.ev x) (a.eval x) := by
  cases x with
  | tmp t =>
    simp only [AS.ev, Act.eval]
    cases ht : s.tmps[t]? with
    | none => simp only [Option.getD_none]; exact .any _
    | some v =>
      obtain ⟨x, hx, hv⟩ := h.tmps.ex ht
      have : a.tmps[t]? = some x := by simpa using hx
      simp [Array.getD_eq_getD_getElem?, this, hv]
  | const v => exact .ofValue ρ M v
  | global g => exact .any _
  | func f => exact .fn rfl rfl (by simp) (by simp)

theorem HoldsT.put {ρ : Names} {M : Mem} {s : AS} {a : Act} {w : World} (h : HoldsT ρ M s a w) (d : Option Tmp) {v : AV} {x : Value} (hv : VR ρ M v x) : HoldsT ρ M (s.put d v) (a.put d x) w := by
  cases d with
  | none => exact h
  | some d => exact ⟨by simpa [AS.put, Act.put] using h.tmps.set d hv, h.rel, h.dfs⟩
theorem HoldsT.mono {ρ ρ' : Names} {M M' : Mem} {s : AS} {a : Act} {w w' : World} {σ' : Store} (h : HoldsT ρ M s a w) (hg : Grows ρ M ρ' M') (hr : Rel ρ' M' σ' w') : HoldsT ρ' M' (s.setSt σ') a w' :=
  ⟨h.tmps.mono hg, hr, h.dfs.mono hg⟩

inductive ExR (ρ : Names) (M : Mem) : Exit → AExit → Prop
  | normal : ExR ρ M .normal .normal
  | exit (id : Nat) : ExR ρ M (.exit id) (.exit id)
  | goto (l : Nat) : ExR ρ M (.goto l) (.goto l)
  | ret : ExR ρ M .ret .ret
  | panic {v : AV} {x : Value} (h : VR ρ M v x) : ExR ρ M (.panic [{ v := x, recovered := false }]) (.panic v)
inductive EndR (ρ : Names) (M : Mem) : Ending → AEnd → Prop
  | ret {v : AV} {x : Value} (h : VR ρ M v x) : EndR ρ M (.returned x) (.ret v)
  | panic {v : AV} {x : Value} (h : VR ρ M v x) : EndR ρ M (.panicked [{ v := x, recovered := false }]) (.panic v)

/-! ### Calls -/
def enters (P : Program) (f : FuncId) : Bool := match P.funcs[f]? with
  | some fn => fn.body.isSome && fn.name != "runtime.NumGoroutine"
  | none => false
theorem enters_run {P : Program} {f : FuncId} (h : enters P f = true) (args : Array Value) (w : World) : (callFunc f args).run P w = .ok (.enter f args) w := by
  unfold enters at h
  split at h
  · rename_i fn hf
    simp only [Bool.and_eq_true, bne_iff_ne, ne_eq] at h
    obtain ⟨b, hb⟩ := Option.isSome_iff_exists.1 h.1
    simp [callFunc, hf, hb, h.2]
  · cases h

/-- The contract of a call: from the store σ, its own names below ns. -/
def ACalls (P : Program) (f : FuncId) (args : List AV) (σ : Store) (ns : Nm) (R : AEnd → Store → Prop) : Prop :=
  enters P f = true ∧ ∀ (ρ : Names) (M : Mem) (w : World) (xs : List Value), Rel ρ M σ w → (∀ n, n.under ns = true → ρ n = none) → VRs ρ M args xs →
    Calls P f xs.toArray w fun e w' => ∃ ae σ' ρ' M', EndR ρ' M' e ae ∧ R ae σ' ∧ Rel ρ' M' σ' w' ∧ Evo (fun n => n.under ns = true) ρ M σ w ρ' M' σ' w'
theorem ACalls.mono {P : Program} {f : FuncId} {args : List AV} {σ : Store} {ns : Nm} {R R' : AEnd → Store → Prop} (h : ACalls P f args σ ns R) (hr : ∀ e σ', R e σ' → R' e σ') : ACalls P f args σ ns R' :=
  ⟨h.1, fun ρ M w xs h1 h2 h3 => (h.2 ρ M w xs h1 h2 h3).mono fun e w' ⟨ae, σ', ρ', M', a, b, c⟩ => ⟨ae, σ', ρ', M', a, hr _ _ b, c⟩⟩

/-! ### Operations -/
inductive AEff where
  | val (v : AV) (σ : Store)
  | skip (σ : Store)
  | call (f : FuncId) (args : List AV)
  | bad

def aeff (P : Program) (n : Nm) (e : Operand → AV) (σ : Store) (op : Op) : AEff :=
  match op with
  | .alloc t => match tyZero P t with
    | some z => .val (.ptr n 0) (σ.up n (.var z))
    | none => .bad
  | .box t x => match (e x).cells? with
    | some cs => .val (.ptr n 0) (σ.up n (.var cs))
    | none => .bad
  | .store t a x => match astore P σ t (e a) (e x) with
    | some σ' => .skip σ'
    | none => .bad
  | .buildSlice t len parts => match abuildSlice P t len (parts.toList.map fun p => (p.1, e p.2)) with
    | some v => .val v σ
    | none => .bad
  | .call c => match c.callee with
    | .builtin .append => match c.args.toList.map e with
      | [s, x] => match aappend P n σ c.argTypes s x with
        | some (v, σ') => .val v σ'
        | none => .bad
      | _ => .bad
    | .builtin b => match abuiltin P b c.argTypes (c.args.toList.map e) with
      | some v => .val v σ
      | none => .bad
    | .value f => match e f with
      | .fn (.func g) first caps => .call g (first ++ c.args.toList.map e ++ caps)
      | _ => .bad
    | .invoke _ _ => .bad
  | op => match aquiet P e σ op with
    | some v => .val v σ
    | none => .bad

/-- What the machine does, by what the abstract operation says. -/
def EffR (P : Program) (NS : Nm → Prop) (ρ : Names) (M : Mem) (σ : Store) (w : World) (r : Result Next) : AEff → Prop
  | .val v σ' => ∃ (x : Value) (w' : World) (ρ' : Names) (M' : Mem), r = .ok (.value x) w' ∧ VR ρ' M' v x ∧ Rel ρ' M' σ' w' ∧ Evo NS ρ M σ w ρ' M' σ' w'
  | .skip σ' => ∃ (w' : World) (ρ' : Names) (M' : Mem), r = .ok .skip w' ∧ Rel ρ' M' σ' w' ∧ Evo NS ρ M σ w ρ' M' σ' w'
  | .call f args => ∃ xs : List Value, (enters P f = true → r = .ok (.enter f xs.toArray) w) ∧ VRs ρ M args xs
  | .bad => True

section
variable {P : Program} {ρ : Names} {M : Mem} {σ : Store} {w : World}
theorem aeff_quiet {e : Operand → AV} {r : Operand → Value} {o : Oper} {n : Nm} {NS : Nm → Prop} (hr : Rel ρ M σ w) (he : ∀ x, VR ρ M (e x) (r x)) :
    EffR P NS ρ M σ w ((execOp r o).run P w) (match aquiet P e σ o.op with | some v => .val v σ | none => .bad) := by
  split
  · rename_i v hv
    obtain ⟨z, hz, hvz⟩ := aquiet_sound hr he hv
    exact ⟨z, w, ρ, M, hz, hvz, hr, .refl⟩
  · trivial

theorem aeff_sound {e : Operand → AV} {r : Operand → Value} {o : Oper} {n : Nm} {NS : Nm → Prop} (hr : Rel ρ M σ w) (he : ∀ x, VR ρ M (e x) (r x)) (hn : ρ n = none) (hN : NS n) :
    EffR P NS ρ M σ w ((execOp r o).run P w) (aeff P n e σ o.op) := by
  have pairs : ∀ (parts : Array (Nat × Operand)), (parts.toList.map fun p => (p.1, e p.2)).length = (parts.map fun (i, x) => (i, r x)).size ∧
      ∀ (i : Nat) (p : Nat × AV) (q : Nat × Value), (parts.toList.map fun p => (p.1, e p.2))[i]? = some p → (parts.map fun (i, x) => (i, r x))[i]? = some q → p.1 = q.1 ∧ VR ρ M p.2 q.2 := by
    intro parts
    refine ⟨by simp, fun i p q hp hq => ?_⟩
    simp only [List.getElem?_map, Array.getElem?_map] at hp hq
    cases hl : parts.toList[i]? with
    | none => simp [hl] at hp
    | some y =>
      have hl' : parts[i]? = some y := by simpa using hl
      simp [hl] at hp; simp [hl'] at hq; subst hp; subst hq; exact ⟨rfl, he _⟩
  have q := aeff_quiet (P := P) (o := o) (n := n) (NS := NS) hr he
  unfold aeff
  split
  · rename_i t ho
    split
    · rename_i z hz
      obtain ⟨zv, hzv, hzc⟩ := tyZero_run hz w
      have hv : VRs ρ M z zv.cells.toList := by rw [← hzc]; exact .ofCells ρ M _
      obtain ⟨h1, h2⟩ := hr.alloc_var (NS := NS) t hn hN hv
      refine ⟨.pointer (some ⟨w.heap.size, 0, none⟩), w.alloc (.cells zv.cells t), _, M, ?_, .ptr (p := ⟨w.heap.size, 0, 0⟩) (Names.up_same ..), by simpa using h1, by simpa using h2⟩
      simp [execOp, ho, Instr.alloc, hzv, newVar, newRow]
    · trivial
  · rename_i t x ho
    split
    · rename_i cs hcs
      obtain ⟨h1, h2⟩ := hr.alloc_var (NS := NS) t hn hN ((he x).cells hcs)
      refine ⟨.pointer (some ⟨w.heap.size, 0, none⟩), w.alloc (.cells (r x).cells t), _, M, ?_, .ptr (p := ⟨w.heap.size, 0, 0⟩) (Names.up_same ..), by simpa using h1, by simpa using h2⟩
      simp [execOp, ho, Instr.box, newVar, newRow]
    · trivial
  · rename_i t a x ho
    split
    · rename_i σ' hs
      obtain ⟨w', hrun, h1, h2⟩ := astore_sound (NS := NS) hr (he a) (he x) hs
      exact ⟨w', ρ, M, by simp [execOp, ho, hrun], h1, h2⟩
    · trivial
  · rename_i t len parts ho
    split
    · rename_i v hv
      obtain ⟨x, w', M', hrun, hvr, h1, h2⟩ := abuildSlice_sound (NS := NS) hr (pairs parts).1 (pairs parts).2 hv
      exact ⟨x, w', ρ, M', by simp [execOp, ho, hrun], hvr, h1, h2⟩
    · trivial
  · rename_i c ho
    split
    · rename_i hc
      split
      · rename_i s x hargs
        split
        · rename_i v σ' hap
          obtain ⟨o1, o2, hl⟩ : ∃ o1 o2, c.args.toList = [o1, o2] := by
            match hcl : c.args.toList, hargs with
            | [a, b], _ => exact ⟨a, b, rfl⟩
          rw [hl] at hargs
          simp at hargs
          obtain ⟨rfl, rfl⟩ := hargs
          obtain ⟨y, w', ρ', M', hrun, hvr, h1, h2⟩ := aappend_sound (NS := NS) (t := o.type) hr hn hN (he o1) (he o2) hap
          have hm : c.args.map r = #[r o1, r o2] := by apply Array.ext'; simp [hl]
          exact ⟨y, w', ρ', M', by simp [execOp, ho, resolve, hc, invoke, builtin, hm, hrun], hvr, h1, h2⟩
        · trivial
      · trivial
    · rename_i b hne hc
      simp only [aquiet, ho, hc] at q
      exact q
    · rename_i f hc
      split
      · rename_i g first caps hf
        have hv := he f
        rw [hf] at hv
        generalize hrf : r f = rf at hv
        cases hv with
        | fn hl1 hl2 h1 h2 =>
          rename_i fx cx
          have v1 : VRs ρ M first fx.toList := ⟨by simpa using hl1, fun i v x hv hx => h1 i v x hv (by simpa using hx)⟩
          have v2 : VRs ρ M caps cx.toList := ⟨by simpa using hl2, fun i v x hv hx => h2 i v x hv (by simpa using hx)⟩
          refine ⟨fx.toList ++ c.args.toList.map r ++ cx.toList, fun hen => ?_, (v1.append (VRs.map_ops he _)).append v2⟩
          have := enters_run hen (fx ++ c.args.map r ++ cx) w
          have e1 : (fx.toList ++ c.args.toList.map r ++ cx.toList).toArray = fx ++ c.args.map r ++ cx := by apply Array.ext'; simp
          rw [e1, ← this]
          simp [execOp, ho, resolve, hc, Deferred.ofValue, hrf, invoke]
      · trivial
    · trivial
  · exact q
end

/-- One operation. -/
def astep (P : Program) (n : Nm) (o : Oper) (K : AS → Prop) (Q : AExit → AS → Prop) (s : AS) : Prop :=
  match aeff P n s.ev s.st o.op with
  | .val v σ => K ((s.setSt σ).put o.dst v)
  | .skip σ => K ((s.setSt σ).put o.dst (.tup []))
  | .call f args => ACalls P f args s.st n fun e σ => match e with
    | .ret v => K ((s.setSt σ).put o.dst v)
    | .panic v => Q (.panic v) (s.setSt σ).bump
  | .bad => False

def awanted (ops : Array Oper) (s : AS) (o : Oper) : Option Bool :=
  match o.guard with
  | none => some true
  | some (j, want) => match (ops[j]?).bind (·.dst) with
    | none => some false
    | some d => match s.tmps[d]? with
      | some (.bool b) => some (b == want)
      | some (.tup []) => some false
      | _ => none

def aOp (P : Program) (ops : Array Oper) (Q : AExit → AS → Prop) (i : Nat) (K : AS → Prop) (s : AS) : Prop :=
  match ops[i]? with
  | none => K s
  | some o => match awanted ops s o with
    | some true => astep P ((s.ns.sub s.c).sub i) o K Q s
    | some false => K (s.put o.dst (.tup []))
    | none => False

/-- Operations in the text's order. -/
def aSeq (P : Program) (ops : Array Oper) (Q : AExit → AS → Prop) : List Oper → Nat → AS → Prop
  | [], _, s => Q .normal s.bump
  | o :: rest, i, s => match awanted ops s o with
    | some true => astep P ((s.ns.sub s.c).sub i) o (aSeq P ops Q rest (i + 1)) Q s
    | some false => aSeq P ops Q rest (i + 1) (s.put o.dst (.tup []))
    | none => False

/-- Operations in any order that their edges let. -/
def awAny (P : Program) (ops : Array Oper) (Q : AExit → AS → Prop) : Nat → Array Bool → AS → Prop
  | 0, listed, s => Region.ready .any ops listed = [] ∧ Q .normal s.bump
  | fuel + 1, listed, s =>
    (Region.ready .any ops listed = [] → Q .normal s.bump) ∧
    ∀ i ∈ Region.ready .any ops listed, aOp P ops Q i (awAny P ops Q fuel (listed.setIfInBounds i true)) s

/-! ### Code -/
def thenA (K : AS → Prop) (Q : AExit → AS → Prop) : AExit → AS → Prop
  | .normal, s => K s
  | e, s => Q e s
def inBlockA (id : Nat) (Q : AExit → AS → Prop) : AExit → AS → Prop
  | .exit id', s => if id' = id then Q .normal s else Q (.exit id') s
  | e, s => Q e s

/-- Names below ns, but for those in ks, as they were in σ. -/
def restoreS (ns : Nm) (ks : List Nm) (σ τ : Store) : Store := fun n => if n.under ns = true ∧ n ∉ ks then σ n else τ n

/-- A value of which less is known. -/
def AVle (v v' : AV) : Prop := ∀ (ρ : Names) (M : Mem) (x : Value), VR ρ M v x → VR ρ M v' x
theorem AVle.refl (v : AV) : AVle v v := fun _ _ _ h => h
theorem AVle.any (v : AV) : AVle v .any := fun _ _ x _ => .any x
def AVsle (vs vs' : List AV) : Prop := vs.length = vs'.length ∧ ∀ (i : Nat) (v v' : AV), vs[i]? = some v → vs'[i]? = some v' → AVle v v'
theorem AVsle.vrs {vs vs' : List AV} (h : AVsle vs vs') {ρ : Names} {M : Mem} {xs : List Value} (hv : VRs ρ M vs xs) : VRs ρ M vs' xs :=
  ⟨by rw [← h.1]; exact hv.len, fun i v' x hv' hx => by
    have hi : i < vs.length := by rw [h.1]; exact (List.getElem?_eq_some_iff.1 hv').1
    exact h.2 i vs[i] v' (List.getElem?_eq_getElem hi) hv' ρ M x (hv.get i _ x (List.getElem?_eq_getElem hi) hx)⟩

/-- A variable of which less is known. -/
def VarWk (o' o : AObj) : Prop := o' = o ∨ ∃ cs cs', o' = .var cs ∧ o = .var cs' ∧ AVsle cs cs'
/-- A store of which less is known. -/
def StWk (τ σ' : Store) : Prop := ∀ n o, σ' n = some o → ∃ o', τ n = some o' ∧ VarWk o' o
/-- What may be told of a store when a call, or a round, ends: less. Names below ns may be told as they were. -/
def StWeak (ns : Nm) (σ τ σ' : Store) : Prop := ∀ n, (n.under ns = true ∧ σ' n = σ n) ∨ ∀ o, σ' n = some o → ∃ o', τ n = some o' ∧ VarWk o' o
theorem StWk.refl (τ : Store) : StWk τ τ := fun n o h => ⟨o, h, .inl rfl⟩

/-- The end of a round: S a is the state in which a round begins. -/
def loopG {α : Type} (S : α → AS) (μ : α → Nat) (Good : α → Prop) (ns : Nm) (c k : Nat) (a : α) (Q : AExit → AS → Prop) : AExit → AS → Prop
  | .normal, u => ∃ b, Good b ∧ μ b < μ a ∧ AVsle u.tmps (S b).tmps ∧ StWeak ((ns.sub c).sub k) (S a).st u.st (S b).st ∧ u.dfs = (S b).dfs
  | e, u => Q e { u with ns := ns, c := c + 1 }

def wpc (P : Program) : Code → (AExit → AS → Prop) → AS → Prop
  | .skip, Q, s => Q .normal s
  | .label _, Q, s => Q .normal s
  | .region _ ops draw, Q, s => match draw with
    | false => aSeq P ops Q ops.toList 0 s
    | true => awAny P ops Q ops.size (Array.replicate ops.size false) s
  | .seq x y, Q, s => wpc P x (thenA (wpc P y Q) Q) s
  | .cond c x y, Q, s => match s.ev c with
    | .bool t => (t = true → wpc P x Q s) ∧ (t = false → wpc P y Q s)
    | .anyb => wpc P x Q s ∧ wpc P y Q s
    | _ => False
  | .block id c, Q, s => wpc P c (inBlockA id Q) s
  | .loop cd, Q, s => ∃ (α : Type) (S : α → AS) (μ : α → Nat) (Good : α → Prop) (a0 : α), (∀ a, (S a).ns = s.ns ∧ (S a).c = s.c) ∧ Good a0 ∧ AVsle s.tmps (S a0).tmps ∧ StWk s.st (S a0).st ∧ s.dfs = (S a0).dfs ∧
      ∀ (a : α) (k : Nat), Good a → wpc P cd (loopG S μ Good s.ns s.c k a Q) { S a with ns := (s.ns.sub s.c).sub k, c := 0 }
  | .exit id, Q, s => Q (.exit id) s
  | .goto l, Q, s => Q (.goto l) s
  | .ret, Q, s => Q .ret s
  | .rangeFunc _ _ _ _, _, _ => False
  | .scope _, _, _ => False
  | .refuse _, _, _ => False

end Go.Abs
