/- Abstract states of frames; contracts of calls; operations. -/
import Derived.Test.YtnanajdckbfamaaGreatDoorMA
import Derived.OrdersIn
import Derived.RangeFuncOwn
set_option linter.unusedVariables false
set_option linter.unusedSimpArgs false
namespace Go.Abs

/-! ### States -/
/-- A deferred call. -/
inductive ADf where
  | call (f : FuncId) (args caps : List AV)

/-- What others rely on: names that they keep for themselves; what they know of names and memory. -/
structure Fre where
  keep : Nm → Prop
  base : Names → Mem → Prop
  mono : ∀ {ρ ρ' : Names} {M M' : Mem}, base ρ M → Grows ρ M ρ' M' → base ρ' M'
def Fre.none : Fre := ⟨fun _ => False, fun _ _ => True, fun _ _ => trivial⟩
def Fre.Le (F F' : Fre) : Prop := ∀ n, F.keep n → F'.keep n
def Fre.Ok (F : Fre) (ρ : Names) (M : Mem) : Prop := (∀ n, F.keep n → ρ n = Option.none) ∧ F.base ρ M
theorem Fre.Le.refl (F : Fre) : F.Le F := fun _ h => h
theorem Fre.Le.trans {F G H : Fre} (h : F.Le G) (h' : G.Le H) : F.Le H := fun n hn => h' n (h n hn)

structure AS where
  tmps : List AV
  st : Store
  ns : Nm
  c : Nat
  dfs : List ADf := []
  fr : Fre := Fre.none

def AS.ev (s : AS) : Operand → AV
  | .tmp t => (s.tmps[t]?).getD .any
  | .const v => ofValue v
  | .global _ => .any
  | .func f => .fn (.func f) [] []
def AS.put (s : AS) (d : Option Tmp) (v : AV) : AS := match d with
  | some d => { s with tmps := s.tmps.set d v }
  | none => s
def AS.setSt (s : AS) (σ : Store) : AS := { s with st := σ }
def AS.setYd (s : AS) (σ : Store) (F : Fre) : AS := { s with st := σ, fr := F }
def AS.bump (s : AS) : AS := { s with c := s.c + 1 }

@[simp] theorem AS.put_ns (s : AS) (d : Option Tmp) (v : AV) : (s.put d v).ns = s.ns := by cases d <;> rfl
@[simp] theorem AS.put_c (s : AS) (d : Option Tmp) (v : AV) : (s.put d v).c = s.c := by cases d <;> rfl
@[simp] theorem AS.put_st (s : AS) (d : Option Tmp) (v : AV) : (s.put d v).st = s.st := by cases d <;> rfl
@[simp] theorem AS.put_fr (s : AS) (d : Option Tmp) (v : AV) : (s.put d v).fr = s.fr := by cases d <;> rfl
@[simp] theorem AS.put_dfs (s : AS) (d : Option Tmp) (v : AV) : (s.put d v).dfs = s.dfs := by cases d <;> rfl

inductive AExit where
  | normal
  | exit (id : Nat)
  | goto (l : Nat)
  | ret
  | panic (v : AV)
inductive AEnd where
  | ret (v : AV)
  | panic (v : AV)

inductive DfR (ρ : Names) (M : Mem) : ADf → Deferred → Prop
  | call {f : FuncId} {args caps : List AV} {xs ys : List Value} (h1 : VRs ρ M args xs) (h2 : VRs ρ M caps ys) : DfR ρ M (.call f args caps) { target := .fn (.func f) ys.toArray, args := xs.toArray }
theorem DfR.mono {ρ ρ' : Names} {M M' : Mem} (hg : Grows ρ M ρ' M') {d : ADf} {x : Deferred} (h : DfR ρ M d x) : DfR ρ' M' d x := by
  cases h with
  | call h1 h2 => exact .call (h1.mono hg) (h2.mono hg)
/-- Deferred calls; the marks that ranges over functions leave are passed over. -/
inductive DfsR (ρ : Names) (M : Mem) : List ADf → List Deferred → Prop
  | nil : DfsR ρ M [] []
  | cons {d : ADf} {x : Deferred} {ds : List ADf} {xs : List Deferred} (h : DfR ρ M d x) (hs : DfsR ρ M ds xs) : DfsR ρ M (d :: ds) (x :: xs)
  | skip {b : Nat} {ds : List ADf} {xs : List Deferred} (hs : DfsR ρ M ds xs) : DfsR ρ M ds ({ target := .collected b, args := #[] } :: xs)
theorem DfsR.mono {ρ ρ' : Names} {M M' : Mem} (hg : Grows ρ M ρ' M') {ds : List ADf} {xs : List Deferred} (h : DfsR ρ M ds xs) : DfsR ρ' M' ds xs := by
  induction h with
  | nil => exact .nil
  | cons h _ ih => exact .cons (h.mono hg) ih
  | skip _ ih => exact .skip ih
/-- The marks' blocks are empty, and nobody's. -/
structure CollOk (z : Nat) (ρ : Names) (σ : Store) (ds : List Deferred) (w : World) : Prop where
  blk : ∀ d ∈ ds, ∀ b, d.target = .collected b → w.heap[b]? = some (.deferred (some [])) ∧ ¬ Owned ρ σ b ∧ z ≤ b
  nod : ds.Pairwise fun d d' => ∀ b, d.target = .collected b → d'.target ≠ .collected b
  le : z ≤ w.heap.size
/-- Where a frame is: the loop in whose round it is; the heap's size when it began. -/
structure Rz where
  rnd : Option Nat
  z : Nat
/-- The record of the loop whose round the frame is in lies there, and is nobody's. -/
def RndOk (r : Option Nat) (ρ : Names) (σ : Store) (w : World) : Prop := ∀ l, r = some l → (∃ rec, w.heap[l]? = some (.loop rec)) ∧ ¬ Owned ρ σ l
theorem kept_evo {NS : Nm → Prop} {ρ ρ' : Names} {M M' : Mem} {σ σ' : Store} {w w' : World} {b : Nat} {o : Obj} (hev : Evo NS ρ M σ w ρ' M' σ' w') (h : w.heap[b]? = some o) (hn : ¬ Owned ρ σ b) : w'.heap[b]? = some o ∧ ¬ Owned ρ' σ' b := by
  have hlt : b < w.heap.size := (Array.getElem?_eq_some_iff.1 h).1
  refine ⟨by rw [hev.keep b hlt hn]; exact h, fun ho => ?_⟩
  rcases hev.own b ho with h1 | h1
  · omega
  · exact hn h1
theorem CollOk.evo {NS : Nm → Prop} {z : Nat} {ρ ρ' : Names} {M M' : Mem} {σ σ' : Store} {w w' : World} {ds : List Deferred} (hev : Evo NS ρ M σ w ρ' M' σ' w') (h : CollOk z ρ σ ds w) : CollOk z ρ' σ' ds w' :=
  ⟨fun d hd b hb => by
    obtain ⟨h1, h2, h3⟩ := h.blk d hd b hb
    obtain ⟨h4, h5⟩ := kept_evo hev h1 h2
    exact ⟨h4, h5, h3⟩, h.nod, Nat.le_trans h.le hev.size⟩
theorem RndOk.evo {NS : Nm → Prop} {ρ ρ' : Names} {M M' : Mem} {σ σ' : Store} {w w' : World} {r : Option Nat} (hev : Evo NS ρ M σ w ρ' M' σ' w') (h : RndOk r ρ σ w) : RndOk r ρ' σ' w' := fun l hl => by
  obtain ⟨⟨rec, h1⟩, h2⟩ := h l hl
  obtain ⟨h3, h4⟩ := kept_evo hev h1 h2
  exact ⟨⟨rec, h3⟩, h4⟩

/-- What a state tells of a frame and of memory. -/
structure HoldsT (r : Rz) (ρ : Names) (M : Mem) (s : AS) (a : Act) (w : World) : Prop where
  tmps : VRs ρ M s.tmps a.tmps.toList
  rel : Rel ρ M s.st w
  dfs : DfsR ρ M s.dfs a.defers
  coll : CollOk r.z ρ s.st a.defers w
  rnd : RndOk r.rnd ρ s.st w
structure Holds (r : Rz) (ρ : Names) (M : Mem) (s : AS) (a : Act) (w : World) : Prop extends HoldsT r ρ M s a w where
  avail : ∀ c', s.c ≤ c' → ∀ n, n.under (s.ns.sub c') = true → ρ n = none
  frs : s.fr.Ok ρ M
  frd : ∀ n, s.fr.keep n → n.under s.ns = false

theorem HoldsT.ev {r : Rz} {ρ : Names} {M : Mem} {s : AS} {a : Act} {w : World} (h : HoldsT r ρ M s a w) (x : Operand) : VR ρ M (s.ev x) (a.eval x) := by
  cases x with
  | tmp t =>
    simp only [AS.ev, Act.eval]
    cases ht : s.tmps[t]? with
    | none => simp only [Option.getD_none]; exact .any _
    | some v =>
      obtain ⟨x, hx, hv⟩ := h.tmps.ex ht
      have : a.tmps[t]? = some x := by simpa using hx
      simp [Array.getD_eq_getD_getElem?, this, hv]
  | const v => exact .ofValue ρ M v
  | global g => exact .any _
  | func f => exact .fn rfl rfl (by simp) (by simp)

theorem HoldsT.put {r : Rz} {ρ : Names} {M : Mem} {s : AS} {a : Act} {w : World} (h : HoldsT r ρ M s a w) (d : Option Tmp) {v : AV} {x : Value} (hv : VR ρ M v x) : HoldsT r ρ M (s.put d v) (a.put d x) w := by
  cases d with
  | none => exact h
  | some d => exact ⟨by simpa [AS.put, Act.put] using h.tmps.set d hv, h.rel, h.dfs, h.coll, h.rnd⟩
theorem HoldsT.evo {NS : Nm → Prop} {r : Rz} {ρ ρ' : Names} {M M' : Mem} {s : AS} {a : Act} {w w' : World} {σ' : Store} (h : HoldsT r ρ M s a w) (hev : Evo NS ρ M s.st w ρ' M' σ' w') (hr : Rel ρ' M' σ' w') : HoldsT r ρ' M' (s.setSt σ') a w' :=
  ⟨h.tmps.mono hev.grows, hr, h.dfs.mono hev.grows, h.coll.evo hev, h.rnd.evo hev⟩

inductive ExR (ρ : Names) (M : Mem) : Exit → AExit → Prop
  | normal : ExR ρ M .normal .normal
  | exit (id : Nat) : ExR ρ M (.exit id) (.exit id)
  | goto (l : Nat) : ExR ρ M (.goto l) (.goto l)
  | ret : ExR ρ M .ret .ret
  | panic {v : AV} {x : Value} (h : VR ρ M v x) : ExR ρ M (.panic [{ v := x, recovered := false }]) (.panic v)
inductive EndR (ρ : Names) (M : Mem) : Ending → AEnd → Prop
  | ret {v : AV} {x : Value} (h : VR ρ M v x) : EndR ρ M (.returned x) (.ret v)
  | panic {v : AV} {x : Value} (h : VR ρ M v x) : EndR ρ M (.panicked [{ v := x, recovered := false }]) (.panic v)

/-! ### Calls -/
def enters (P : Program) (f : FuncId) : Bool := match P.funcs[f]? with
  | some fn => fn.body.isSome && fn.name != "runtime.NumGoroutine"
  | none => false
theorem enters_run {P : Program} {f : FuncId} (h : enters P f = true) (args : Array Value) (w : World) : (callFunc f args).run P w = .ok (.enter f args) w := by
  unfold enters at h
  split at h
  · rename_i fn hf
    simp only [Bool.and_eq_true, bne_iff_ne, ne_eq] at h
    obtain ⟨b, hb⟩ := Option.isSome_iff_exists.1 h.1
    simp [callFunc, hf, hb, h.2]
  · cases h

/-- The contract of a call: from the store σ, its own names below ns. -/
def ACalls (P : Program) (f : FuncId) (args : List AV) (σ : Store) (ns : Nm) (R : AEnd → Store → Prop) : Prop :=
  enters P f = true ∧ ∀ (ρ : Names) (M : Mem) (w : World) (xs : List Value), Rel ρ M σ w → (∀ n, n.under ns = true → ρ n = none) → VRs ρ M args xs →
    Calls P f xs.toArray w fun e w' => ∃ ae σ' ρ' M', EndR ρ' M' e ae ∧ R ae σ' ∧ Rel ρ' M' σ' w' ∧ Evo (fun n => n.under ns = true) ρ M σ w ρ' M' σ' w'
theorem ACalls.mono {P : Program} {f : FuncId} {args : List AV} {σ : Store} {ns : Nm} {R R' : AEnd → Store → Prop} (h : ACalls P f args σ ns R) (hr : ∀ e σ', R e σ' → R' e σ') : ACalls P f args σ ns R' :=
  ⟨h.1, fun ρ M w xs h1 h2 h3 => (h.2 ρ M w xs h1 h2 h3).mono fun e w' ⟨ae, σ', ρ', M', a, b, c⟩ => ⟨ae, σ', ρ', M', a, hr _ _ b, c⟩⟩

/-! ### Operations -/
inductive AEff where
  | val (v : AV) (σ : Store)
  | skip (σ : Store)
  | call (f : FuncId) (args : List AV)
  | yield (l : Nat) (args : List AV)
  | panic (v : AV)
  | bad

def aeff (P : Program) (n : Nm) (e : Operand → AV) (σ : Store) (op : Op) : AEff :=
  match op with
  | .alloc t => match tyZero P t with
    | some z => .val (.ptr n 0) (σ.up n (.var z))
    | none => .bad
  | .box t x => match (e x).cells? with
    | some cs => .val (.ptr n 0) (σ.up n (.var cs))
    | none => .bad
  | .store t a x => match astore P σ t (e a) (e x) with
    | some σ' => .skip σ'
    | none => .bad
  | .buildSlice t len parts => match abuildSlice P t len (parts.toList.map fun p => (p.1, e p.2)) with
    | some v => .val v σ
    | none => .bad
  | .makeMap t r => match r with
    | none => .val (.map n) (σ.up n (.map []))
    | some o => match e o, tyMap P t with
      | .int _ _, some _ => .val (.map n) (σ.up n (.map []))
      | _, _ => .bad
  | .lookup t x i ok => match alookup P σ t (e x) (e i) ok with
    | some v => .val v σ
    | none => .bad
  | .insert t m k v => match amapUpdate P σ t (e m) (e k) (e v) with
    | some σ' => .skip σ'
    | none => .bad
  | .mapUpdate t m k v => match amapUpdate P σ t (e m) (e k) (e v) with
    | some σ' => .skip σ'
    | none => .bad
  | .call c => match c.callee with
    | .builtin .append => match c.args.toList.map e with
      | [s, x] => match (if n.rows = true then aappendR P n σ c.argTypes s x else aappend P n σ c.argTypes s x) with
        | some (v, σ') => .val v σ'
        | none => .bad
      | _ => .bad
    | .builtin b => match abuiltin P b c.argTypes (c.args.toList.map e) with
      | some v => .val v σ
      | none => .bad
    | .value f => match e f with
      | .fn (.func g) first caps => .call g (first ++ c.args.toList.map e ++ caps)
      | .fn (.yield l) [] [] => .yield l (c.args.toList.map e)
      | _ => .bad
    | .invoke _ _ => .bad
  | .panic x => match e x with
    | .ifc t v => .panic (.ifc t v)
    | _ => .bad
  | op => match aquiet P e σ op with
    | some v => .val v σ
    | none => .bad

/-- What the machine does, by what the abstract operation says. -/
def EffR (P : Program) (NS : Nm → Prop) (ρ : Names) (M : Mem) (σ : Store) (w : World) (r : Result Next) : AEff → Prop
  | .val v σ' => ∃ (x : Value) (w' : World) (ρ' : Names) (M' : Mem), r = .ok (.value x) w' ∧ VR ρ' M' v x ∧ Rel ρ' M' σ' w' ∧ Evo NS ρ M σ w ρ' M' σ' w'
  | .skip σ' => ∃ (w' : World) (ρ' : Names) (M' : Mem), r = .ok .skip w' ∧ Rel ρ' M' σ' w' ∧ Evo NS ρ M σ w ρ' M' σ' w'
  | .call f args => ∃ xs : List Value, (enters P f = true → r = .ok (.enter f xs.toArray) w) ∧ VRs ρ M args xs
  | .yield l args => ∃ xs : List Value, r = (Instr.yield l xs.toArray).run P w ∧ VRs ρ M args xs
  | .panic v => ∃ x : Value, r = .halt (.panic x) w ∧ VR ρ M v x
  | .bad => True

section
variable {P : Program} {ρ : Names} {M : Mem} {σ : Store} {w : World}
theorem aeff_quiet {e : Operand → AV} {r : Operand → Value} {o : Oper} {n : Nm} {NS : Nm → Prop} (hr : Rel ρ M σ w) (he : ∀ x, VR ρ M (e x) (r x)) :
    EffR P NS ρ M σ w ((execOp r o).run P w) (match aquiet P e σ o.op with | some v => .val v σ | none => .bad) := by
  split
  · rename_i v hv
    obtain ⟨z, hz, hvz⟩ := aquiet_sound hr he hv
    exact ⟨z, w, ρ, M, hz, hvz, hr, .refl⟩
  · trivial

theorem aeff_sound {e : Operand → AV} {r : Operand → Value} {o : Oper} {n : Nm} {NS : Nm → Prop} (hr : Rel ρ M σ w) (he : ∀ x, VR ρ M (e x) (r x)) (hn : ρ n = none) (hN : NS n) (hn' : ρ (n.mk true) = none) (hN' : NS (n.mk true)) :
    EffR P NS ρ M σ w ((execOp r o).run P w) (aeff P n e σ o.op) := by
  have pairs : ∀ (parts : Array (Nat × Operand)), (parts.toList.map fun p => (p.1, e p.2)).length = (parts.map fun (i, x) => (i, r x)).size ∧
      ∀ (i : Nat) (p : Nat × AV) (q : Nat × Value), (parts.toList.map fun p => (p.1, e p.2))[i]? = some p → (parts.map fun (i, x) => (i, r x))[i]? = some q → p.1 = q.1 ∧ VR ρ M p.2 q.2 := by
    intro parts
    refine ⟨by simp, fun i p q hp hq => ?_⟩
    simp only [List.getElem?_map, Array.getElem?_map] at hp hq
    cases hl : parts.toList[i]? with
    | none => simp [hl] at hp
    | some y =>
      have hl' : parts[i]? = some y := by simpa using hl
      simp [hl] at hp; simp [hl'] at hq; subst hp; subst hq; exact ⟨rfl, he _⟩
  have q := aeff_quiet (P := P) (o := o) (n := n) (NS := NS) hr he
  unfold aeff
  split
  · rename_i t ho
    split
    · rename_i z hz
      obtain ⟨zv, hzv, hzc⟩ := tyZero_run hz w
      have hv : VRs ρ M z zv.cells.toList := by rw [← hzc]; exact .ofCells ρ M _
      obtain ⟨h1, h2⟩ := hr.alloc_var (NS := NS) t hn hN hv
      refine ⟨.pointer (some ⟨w.heap.size, 0, none⟩), w.alloc (.cells zv.cells t), _, M, ?_, .ptr (p := ⟨w.heap.size, 0, 0⟩) (Names.up_same ..), by simpa using h1, by simpa using h2⟩
      simp [execOp, ho, Instr.alloc, hzv, newVar, newRow]
    · trivial
  · rename_i t x ho
    split
    · rename_i cs hcs
      obtain ⟨h1, h2⟩ := hr.alloc_var (NS := NS) t hn hN ((he x).cells hcs)
      refine ⟨.pointer (some ⟨w.heap.size, 0, none⟩), w.alloc (.cells (r x).cells t), _, M, ?_, .ptr (p := ⟨w.heap.size, 0, 0⟩) (Names.up_same ..), by simpa using h1, by simpa using h2⟩
      simp [execOp, ho, Instr.box, newVar, newRow]
    · trivial
  · rename_i t a x ho
    split
    · rename_i σ' hs
      obtain ⟨w', hrun, h1, h2⟩ := astore_sound (NS := NS) hr (he a) (he x) hs
      exact ⟨w', ρ, M, by simp [execOp, ho, hrun], h1, h2⟩
    · trivial
  · rename_i t len parts ho
    split
    · rename_i v hv
      obtain ⟨x, w', M', hrun, hvr, h1, h2⟩ := abuildSlice_sound (NS := NS) hr (pairs parts).1 (pairs parts).2 hv
      exact ⟨x, w', ρ, M', by simp [execOp, ho, hrun], hvr, h1, h2⟩
    · trivial
  · rename_i t rs ho
    have hmk : Rel (ρ.up n ⟨w.heap.size, 0, 0⟩) M (σ.up n (.map [])) (w.alloc (.map #[] 0)) ∧ Evo NS ρ M σ w (ρ.up n ⟨w.heap.size, 0, 0⟩) M (σ.up n (.map [])) (w.alloc (.map #[] 0)) :=
      hr.alloc 0 hn hN ⟨#[], 0, heap_alloc_new _ _, rfl, by simp⟩
    cases rs with
    | none => exact ⟨.map (some w.heap.size), _, _, M, by simp [execOp, ho, Instr.makeMap, run_newObj_alloc], .map (p := ⟨w.heap.size, 0, 0⟩) (Names.up_same ..), hmk.1, hmk.2⟩
    | some o' =>
      simp only
      split
      · rename_i k j et hv hty
        have hx := he o'
        rw [hv] at hx
        generalize hro : r o' = ro at hx
        cases hx
        exact ⟨.map (some w.heap.size), _, _, M, by simp [execOp, ho, Instr.makeMap, hro, run_underlying (tyMap_run (P := P) hty), asInt, asIntOf, run_newObj_alloc], .map (p := ⟨w.heap.size, 0, 0⟩) (Names.up_same ..), hmk.1, hmk.2⟩
      · trivial
  · rename_i t x i ok ho
    split
    · rename_i v hv
      obtain ⟨z, hz, hvz⟩ := alookup_sound hr (he x) (he i) hv
      exact ⟨z, w, ρ, M, by simp [execOp, ho, hz], hvz, hr, .refl⟩
    · trivial
  · rename_i t m k v ho
    split
    · rename_i σ' hs
      obtain ⟨w', hrun, h1, h2⟩ := amapUpdate_sound (NS := NS) hr (he m) (he k) (he v) hs
      exact ⟨w', ρ, M, by simp [execOp, ho, hrun], h1, h2⟩
    · trivial
  · rename_i t m k v ho
    split
    · rename_i σ' hs
      obtain ⟨w', hrun, h1, h2⟩ := amapUpdate_sound (NS := NS) hr (he m) (he k) (he v) hs
      exact ⟨w', ρ, M, by simp [execOp, ho, hrun], h1, h2⟩
    · trivial
  · rename_i c ho
    split
    · rename_i hc
      split
      · rename_i s x hargs
        split
        · rename_i v σ' hap
          obtain ⟨o1, o2, hl⟩ : ∃ o1 o2, c.args.toList = [o1, o2] := by
            match hcl : c.args.toList, hargs with
            | [a, b], _ => exact ⟨a, b, rfl⟩
          rw [hl] at hargs
          simp at hargs
          obtain ⟨rfl, rfl⟩ := hargs
          obtain ⟨y, w', ρ', M', hrun, hvr, h1, h2⟩ : ∃ (y : Value) (w' : World) (ρ' : Names) (M' : Mem), (Builtin.append_ c.argTypes o.type #[r o1, r o2]).run P w = .ok y w' ∧ VR ρ' M' v y ∧ Rel ρ' M' σ' w' ∧ Evo NS ρ M σ w ρ' M' σ' w' := by
            split at hap
            · exact aappendR_sound hr hn' hN' (he o1) (he o2) hap
            · exact aappend_sound hr hn hN (he o1) (he o2) hap
          have hm : c.args.map r = #[r o1, r o2] := by apply Array.ext'; simp [hl]
          exact ⟨y, w', ρ', M', by simp [execOp, ho, resolve, hc, invoke, builtin, hm, hrun], hvr, h1, h2⟩
        · trivial
      · trivial
    · rename_i b hne hc
      simp only [aquiet, ho, hc] at q
      exact q
    · rename_i f hc
      split
      · rename_i g first caps hf
        have hv := he f
        rw [hf] at hv
        generalize hrf : r f = rf at hv
        cases hv with
        | fn hl1 hl2 h1 h2 =>
          rename_i fx cx
          have v1 : VRs ρ M first fx.toList := ⟨by simpa using hl1, fun i v x hv hx => h1 i v x hv (by simpa using hx)⟩
          have v2 : VRs ρ M caps cx.toList := ⟨by simpa using hl2, fun i v x hv hx => h2 i v x hv (by simpa using hx)⟩
          refine ⟨fx.toList ++ c.args.toList.map r ++ cx.toList, fun hen => ?_, (v1.append (VRs.map_ops he _)).append v2⟩
          have := enters_run hen (fx ++ c.args.map r ++ cx) w
          have e1 : (fx.toList ++ c.args.toList.map r ++ cx.toList).toArray = fx ++ c.args.map r ++ cx := by apply Array.ext'; simp
          rw [e1, ← this]
          simp [execOp, ho, resolve, hc, Deferred.ofValue, hrf, invoke]
      · rename_i l hf
        have hv := he f
        rw [hf] at hv
        generalize hrf : r f = rf at hv
        cases hv with
        | fn hl1 hl2 h1 h2 =>
          rename_i fx cx
          have e1 : fx = #[] := by simpa using hl1.symm
          have e2 : cx = #[] := by simpa using hl2.symm
          subst e1; subst e2
          refine ⟨c.args.toList.map r, ?_, VRs.map_ops he _⟩
          have e3 : (c.args.toList.map r).toArray = c.args.map r := by apply Array.ext'; simp
          rw [e3]
          simp [execOp, ho, resolve, hc, Deferred.ofValue, hrf, invoke]
      · trivial
    · trivial
  · rename_i x ho
    split
    · rename_i t v hx
      have hv := he x
      rw [hx] at hv
      generalize hrx : r x = rx at hv
      cases hv with
      | ifc hvx =>
        rename_i y
        exact ⟨.iface t y, by simp [execOp, ho, hrx, Instr.panic], .ifc hvx⟩
    · trivial
  · exact q
end

/-- What a call of a loop's yield does. -/
def AYield (P : Program) (l : Nat) (args : List AV) (τ : Store) (F : Fre) (R : Bool → Store → Fre → Prop) : Prop :=
  ∀ (ρ : Names) (M : Mem) (w : World) (xs : List Value), Rel ρ M τ w → F.Ok ρ M → VRs ρ M args xs →
    YieldAt Fence.wide 0 P l xs.toArray w fun e w' => ∃ b τ' F' ρ' M', e = .returned (.bool b) ∧ R b τ' F' ∧ F'.Le F ∧ F'.Ok ρ' M' ∧ Rel ρ' M' τ' w' ∧ Evo F.keep ρ M τ w ρ' M' τ' w'
theorem AYield.mono {P : Program} {l : Nat} {args : List AV} {τ : Store} {F : Fre} {R R' : Bool → Store → Fre → Prop} (h : AYield P l args τ F R) (hr : ∀ b σ F', F'.Le F → R b σ F' → R' b σ F') : AYield P l args τ F R' :=
  fun ρ M w xs h1 h2 h3 => by
    obtain ⟨fn, tm, as, bd, hy, hR⟩ := h ρ M w xs h1 h2 h3
    exact ⟨fn, tm, as, bd, hy, hR.mono fun e w' ⟨b, τ', F', ρ', M', he, hr', hle, rest⟩ => ⟨b, τ', F', ρ', M', he, hr _ _ _ hle hr', hle, rest⟩⟩

/-- One operation. -/
def astep (P : Program) (n : Nm) (o : Oper) (K : AS → Prop) (Q : AExit → AS → Prop) (s : AS) : Prop :=
  match aeff P n s.ev s.st o.op with
  | .val v σ => K ((s.setSt σ).put o.dst v)
  | .skip σ => K ((s.setSt σ).put o.dst (.tup []))
  | .call f args => ACalls P f args s.st n fun e σ => match e with
    | .ret v => K ((s.setSt σ).put o.dst v)
    | .panic v => Q (.panic v) (s.setSt σ).bump
  | .yield l args => AYield P l args s.st s.fr fun b σ F => K ((s.setYd σ F).put o.dst (.bool b))
  | .panic v => Q (.panic v) s.bump
  | .bad => False

def awanted (ops : Array Oper) (s : AS) (o : Oper) : Option Bool :=
  match o.guard with
  | none => some true
  | some (j, want) => match (ops[j]?).bind (·.dst) with
    | none => some false
    | some d => match s.tmps[d]? with
      | some (.bool b) => some (b == want)
      | some (.tup []) => some false
      | _ => none

def aOp (P : Program) (ops : Array Oper) (Q : AExit → AS → Prop) (i : Nat) (K : AS → Prop) (s : AS) : Prop :=
  match ops[i]? with
  | none => K s
  | some o => match awanted ops s o with
    | some true => astep P ((s.ns.sub s.c).sub i) o K Q s
    | some false => K (s.put o.dst (.tup []))
    | none => False

/-- Operations in the text's order. -/
def aSeq (P : Program) (ops : Array Oper) (Q : AExit → AS → Prop) : List Oper → Nat → AS → Prop
  | [], _, s => Q .normal s.bump
  | o :: rest, i, s => match awanted ops s o with
    | some true => astep P ((s.ns.sub s.c).sub i) o (aSeq P ops Q rest (i + 1)) Q s
    | some false => aSeq P ops Q rest (i + 1) (s.put o.dst (.tup []))
    | none => False

/-- Operations in any order that their edges let. -/
def awAny (P : Program) (ops : Array Oper) (Q : AExit → AS → Prop) : Nat → Array Bool → AS → Prop
  | 0, listed, s => Region.ready .any ops listed = [] ∧ Q .normal s.bump
  | fuel + 1, listed, s =>
    (Region.ready .any ops listed = [] → Q .normal s.bump) ∧
    ∀ i ∈ Region.ready .any ops listed, aOp P ops Q i (awAny P ops Q fuel (listed.setIfInBounds i true)) s

