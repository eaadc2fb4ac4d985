/- Rules by which simp walks. -/
import Derived.Test.YtnanajdckbfamaaGreatDoorA11
set_option linter.unusedVariables false
set_option linter.unusedSimpArgs false
namespace Go.Abs
/-- An equation that simp takes as a step, though it holds by reduction: the kernel then need not look for it. -/
theorem nr {α : Sort _} {a b : α} (h : a = b) : a = b := h
section
variable {P : Program} {pl : List (Nat × Plan)}

@[congr] theorem wpc_congr {pl : List (Nat × Plan)} {c : Code} {Q : AExit → AS → Prop} {s s' : AS} (h : idm s = s') : wpc P pl c Q s = wpc P pl c Q s' := by rw [← h, idm_eq]
@[congr] theorem aSeq_congr {ops : Array Oper} {Q : AExit → AS → Prop} {l : List Oper} {i : Nat} {s s' : AS} (h : idm s = s') : aSeq P ops Q l i s = aSeq P ops Q l i s' := by rw [← h, idm_eq]
@[congr] theorem thenA_congr {K : AS → Prop} {Q : AExit → AS → Prop} {e e' : AExit} {s s' : AS} (he : e = e') (h : idm s = s') : thenA K Q e s = thenA K Q e' s' := by rw [← h, idm_eq, he]
@[congr] theorem inBlockA_congr {id : Nat} {Q : AExit → AS → Prop} {e e' : AExit} {s s' : AS} (he : e = e') (h : idm s = s') : inBlockA id Q e s = inBlockA id Q e' s' := by rw [← h, idm_eq, he]
@[congr] theorem bodyA_congr {rs : List ResultVar} {σ : Store} {ns : Nm} {R : AEnd → Store → Prop} {e e' : AExit} {s s' : AS} (he : e = e') (h : idm s = s') : bodyA P rs σ ns R e s = bodyA P rs σ ns R e' s' := by rw [← h, idm_eq, he]

def aeffK (r : AEff) (n : Nm) (P : Program) (dst : Option Tmp) (K : AS → Prop) (Q : AExit → AS → Prop) (s : AS) : Prop :=
  match r with
  | .val v σ => K ((s.setSt σ).put dst v)
  | .skip σ => K ((s.setSt σ).put dst (.tup []))
  | .call f args => ACalls P f args s.st n fun e σ => match e with
    | .ret v => K ((s.setSt σ).put dst v)
    | .panic v => Q (.panic v) (s.setSt σ).bump
  | .yield l args => AYield P l args s.st s.fr fun b σ F => K ((s.setYd σ F).put dst (.bool b))
  | .panic v => Q (.panic v) s.bump
  | .bad => False
@[congr] theorem aeffK_congr {r r' : AEff} {n n' : Nm} {dst : Option Tmp} {K : AS → Prop} {Q : AExit → AS → Prop} {s s' : AS} (hr : r = r') (hn : n = n') (h : idm s = s') : aeffK r n P dst K Q s = aeffK r' n' P dst K Q s' := by rw [← h, idm_eq, hr, hn]
@[simp] theorem aeffK_val {v : AV} {σ : Store} {n : Nm} {dst : Option Tmp} {K : AS → Prop} {Q : AExit → AS → Prop} {s : AS} : aeffK (.val v σ) n P dst K Q s = K ((s.setSt σ).put dst v) := nr rfl
@[simp] theorem aeffK_skip {σ : Store} {n : Nm} {dst : Option Tmp} {K : AS → Prop} {Q : AExit → AS → Prop} {s : AS} : aeffK (.skip σ) n P dst K Q s = K ((s.setSt σ).put dst (.tup [])) := nr rfl
/-- A call that is to be made: the walk stops here. -/
def CallK (P : Program) (f : FuncId) (args : List AV) (n : Nm) (dst : Option Tmp) (K : AS → Prop) (Q : AExit → AS → Prop) (s : AS) : Prop :=
  ACalls P f args s.st n fun e σ => match e with
    | .ret v => K ((s.setSt σ).put dst v)
    | .panic v => Q (.panic v) (s.setSt σ).bump
@[congr] theorem CallK_congr {f f' : FuncId} {args args' : List AV} {n n' : Nm} {dst : Option Tmp} {K : AS → Prop} {Q : AExit → AS → Prop} {s s' : AS} (hf : f = f') (ha : args = args') (hn : n = n') (h : idm s = s') :
    CallK P f args n dst K Q s = CallK P f' args' n' dst K Q s' := by rw [← h, idm_eq, hf, ha, hn]
@[simp] theorem aeffK_call {f : FuncId} {args : List AV} {n : Nm} {dst : Option Tmp} {K : AS → Prop} {Q : AExit → AS → Prop} {s : AS} : aeffK (.call f args) n P dst K Q s = CallK P f args n dst K Q s := nr rfl
/-- A yield that is to be called: the walk stops here. -/
def YieldK (P : Program) (l : Nat) (args : List AV) (dst : Option Tmp) (K : AS → Prop) (s : AS) : Prop := AYield P l args s.st s.fr fun b σ F => K ((s.setYd σ F).put dst (.bool b))
@[congr] theorem YieldK_congr {l l' : Nat} {args args' : List AV} {dst : Option Tmp} {K : AS → Prop} {s s' : AS} (hf : l = l') (ha : args = args') (h : idm s = s') : YieldK P l args dst K s = YieldK P l' args' dst K s' := by rw [← h, idm_eq, hf, ha]
@[simp] theorem aeffK_yield {l : Nat} {args : List AV} {n : Nm} {dst : Option Tmp} {K : AS → Prop} {Q : AExit → AS → Prop} {s : AS} : aeffK (.yield l args) n P dst K Q s = YieldK P l args dst K s := nr rfl
@[simp] theorem aeffK_panic {v : AV} {n : Nm} {dst : Option Tmp} {K : AS → Prop} {Q : AExit → AS → Prop} {s : AS} : aeffK (.panic v) n P dst K Q s = Q (.panic v) s.bump := nr rfl
@[simp] theorem aeffK_bad {n : Nm} {dst : Option Tmp} {K : AS → Prop} {Q : AExit → AS → Prop} {s : AS} : aeffK .bad n P dst K Q s = False := nr rfl

@[simp] theorem aSeq_nil {ops : Array Oper} {Q : AExit → AS → Prop} {i : Nat} {s : AS} : aSeq P ops Q [] i s = Q .normal s.bump := nr rfl
@[simp] theorem aSeq_cons {ops : Array Oper} {Q : AExit → AS → Prop} {i : Nat} {s : AS} {dst : Option Tmp} {op : Op} {ty : TypeId} {pos : String} {after : Array Edge} {rest : List Oper} :
    aSeq P ops Q ({ dst := dst, op := op, type := ty, pos := pos, after := after, guard := none } :: rest) i s =
      aeffK (aeff P ((s.ns.sub s.c).sub i) s.ev s.st op) ((s.ns.sub s.c).sub i) P dst (aSeq P ops Q rest (i + 1)) Q s := nr rfl
/-- The value that a guard looks at. -/
def gval (o : Option Oper) (s : AS) : AV := match o.bind (·.dst) with
  | none => .tup []
  | some d => (s.tmps[d]?).getD .any
@[simp] theorem gval_none {s : AS} : gval none s = .tup [] := rfl
@[simp] theorem gval_some {s : AS} {op : Op} {ty : TypeId} {pos : String} {after : Array Edge} {d : Tmp} {g : Option (Nat × Bool)} : gval (some { dst := some d, op := op, type := ty, pos := pos, after := after, guard := g }) s = (s.tmps[d]?).getD .any := rfl
@[simp] theorem gval_dst {s : AS} {op : Op} {ty : TypeId} {pos : String} {after : Array Edge} {g : Option (Nat × Bool)} : gval (some { dst := none, op := op, type := ty, pos := pos, after := after, guard := g }) s = .tup [] := rfl
def gvalL (l : List Oper) (j : Nat) (s : AS) : AV := gval (l[j]?) s
@[congr] theorem gvalL_congr {l : List Oper} {j : Nat} {s s' : AS} (h : idm s = s') : gvalL l j s = gvalL l j s' := by rw [← h, idm_eq]
@[simp] theorem gvalL_zero {o : Oper} {l : List Oper} {s : AS} : gvalL (o :: l) 0 s = gval (some o) s := rfl
@[simp] theorem gvalL_succ {o : Oper} {l : List Oper} {j : Nat} {s : AS} : gvalL (o :: l) (j + 1) s = gvalL l j s := rfl
/-- A guarded step. -/
def guardK (g : AV) (want : Bool) (X Y : AS → Prop) (s : AS) : Prop := match g with
  | .bool b => (b = want → X s) ∧ (b = !want → Y s)
  | .tup [] => Y s
  | _ => False
@[congr] theorem guardK_congr {g g' : AV} {want : Bool} {X Y : AS → Prop} {s s' : AS} (hg : g = g') (h : idm s = s') : guardK g want X Y s = guardK g' want X Y s' := by rw [← h, idm_eq, hg]
@[simp] theorem guardK_tt {X Y : AS → Prop} {s : AS} : guardK (.bool true) true X Y s = X s := by simp [guardK]
@[simp] theorem guardK_tf {X Y : AS → Prop} {s : AS} : guardK (.bool true) false X Y s = Y s := by simp [guardK]
@[simp] theorem guardK_ft {X Y : AS → Prop} {s : AS} : guardK (.bool false) true X Y s = Y s := by simp [guardK]
@[simp] theorem guardK_ff {X Y : AS → Prop} {s : AS} : guardK (.bool false) false X Y s = X s := by simp [guardK]
@[simp] theorem guardK_tup {want : Bool} {X Y : AS → Prop} {s : AS} : guardK (.tup []) want X Y s = Y s := nr rfl
theorem guardK_cases {b want : Bool} {X Y : AS → Prop} {s : AS} (h1 : b = true → guardK (.bool true) want X Y s) (h2 : b = false → guardK (.bool false) want X Y s) : guardK (.bool b) want X Y s := by
  cases b
  · exact h2 rfl
  · exact h1 rfl
@[simp] theorem aSeq_cons_guard {l : List Oper} {Q : AExit → AS → Prop} {i : Nat} {s : AS} {dst : Option Tmp} {op : Op} {ty : TypeId} {pos : String} {after : Array Edge} {j : Nat} {want : Bool} {rest : List Oper} :
    aSeq P l.toArray Q ({ dst := dst, op := op, type := ty, pos := pos, after := after, guard := some (j, want) } :: rest) i s =
      guardK (gvalL l j s) want (fun s => aeffK (aeff P ((s.ns.sub s.c).sub i) s.ev s.st op) ((s.ns.sub s.c).sub i) P dst (aSeq P l.toArray Q rest (i + 1)) Q s) (fun s => aSeq P l.toArray Q rest (i + 1) (s.put dst (.tup []))) s := by
  simp only [aSeq, awanted, gvalL, gval, List.getElem?_toArray]
  cases (l[j]?).bind (·.dst) with
  | none => rfl
  | some d =>
    simp only
    cases s.tmps[d]? with
    | none => rfl
    | some v =>
      cases v <;> try rfl
      · rename_i b
        show (match some (b == want) with | some true => _ | some false => _ | none => False) = guardK (.bool b) want _ _ s
        cases b <;> cases want <;> simp only [guardK_tt, guardK_tf, guardK_ft, guardK_ff] <;> rfl
      · rename_i vs
        cases vs <;> rfl

@[simp] theorem aSeq_append {ops : Array Oper} {Q : AExit → AS → Prop} {i : Nat} {s : AS} {o : Oper} {l r : List Oper} : aSeq P ops Q ((o :: l) ++ r) i s = aSeq P ops Q (o :: (l ++ r)) i s := nr rfl
@[simp] theorem aSeq_append_nil {ops : Array Oper} {Q : AExit → AS → Prop} {i : Nat} {s : AS} {r : List Oper} : aSeq P ops Q ([] ++ r) i s = aSeq P ops Q r i s := nr rfl
@[simp] theorem gvalL_append_zero {o : Oper} {l r : List Oper} {s : AS} : gvalL ((o :: l) ++ r) 0 s = gval (some o) s := rfl
@[simp] theorem gvalL_append_succ {o : Oper} {l r : List Oper} {j : Nat} {s : AS} : gvalL ((o :: l) ++ r) (j + 1) s = gvalL (l ++ r) j s := rfl
@[simp] theorem gvalL_append_nil {r : List Oper} {j : Nat} {s : AS} : gvalL ([] ++ r) j s = gvalL r j s := rfl

@[simp] theorem wpc_skip {Q : AExit → AS → Prop} {s : AS} : wpc P pl .skip Q s = Q .normal s := nr rfl
@[simp] theorem wpc_label {l : Nat} {Q : AExit → AS → Prop} {s : AS} : wpc P pl (.label l) Q s = Q .normal s := nr rfl
@[simp] theorem wpc_region {id : Nat} {l : List Oper} {Q : AExit → AS → Prop} {s : AS} : wpc P pl (.region id l.toArray false) Q s = aSeq P l.toArray Q l 0 s := nr rfl
/-- A drawn region, by its plan. -/
def planK (P : Program) (l : List Oper) (Q : AExit → AS → Prop) (o : Option Plan) (s : AS) : Prop := match o with
  | some p => aPlan P l.toArray Q p s
  | none => False
@[congr] theorem planK_congr {l : List Oper} {Q : AExit → AS → Prop} {o o' : Option Plan} {s s' : AS} (ho : o = o') (h : idm s = s') : planK P l Q o s = planK P l Q o' s' := by rw [← h, idm_eq, ho]
@[simp] theorem planK_some {l : List Oper} {Q : AExit → AS → Prop} {p : Plan} {s : AS} : planK P l Q (some p) s = aPlan P l.toArray Q p s := nr rfl
@[simp] theorem wpc_draw {id : Nat} {l : List Oper} {Q : AExit → AS → Prop} {s : AS} : wpc P pl (.region id l.toArray true) Q s = planK P l Q (pl.lookup id) s := by
  simp only [wpc, planK]; cases pl.lookup id <;> rfl
@[simp] theorem wpc_seq {x y : Code} {Q : AExit → AS → Prop} {s : AS} : wpc P pl (.seq x y) Q s = wpc P pl x (thenA (wpc P pl y Q) Q) s := nr rfl
/-- A test. -/
def condK (P : Program) (pl : List (Nat × Plan)) (v : AV) (x y : Code) (Q : AExit → AS → Prop) (s : AS) : Prop := match v with
  | .bool t => (t = true → wpc P pl x Q s) ∧ (t = false → wpc P pl y Q s)
  | .anyb => wpc P pl x Q s ∧ wpc P pl y Q s
  | _ => False
@[congr] theorem condK_congr {v v' : AV} {x y : Code} {Q : AExit → AS → Prop} {s s' : AS} (hv : v = v') (h : idm s = s') : condK P pl v x y Q s = condK P pl v' x y Q s' := by rw [← h, idm_eq, hv]
@[simp] theorem wpc_cond {c : Operand} {x y : Code} {Q : AExit → AS → Prop} {s : AS} : wpc P pl (.cond c x y) Q s = condK P pl (s.ev c) x y Q s := nr rfl
theorem condK_any {x y : Code} {Q : AExit → AS → Prop} {s : AS} (h1 : wpc P pl x Q s) (h2 : wpc P pl y Q s) : condK P pl .anyb x y Q s := ⟨h1, h2⟩
@[simp] theorem condK_true {x y : Code} {Q : AExit → AS → Prop} {s : AS} : condK P pl (.bool true) x y Q s = wpc P pl x Q s := by simp [condK]
@[simp] theorem condK_false {x y : Code} {Q : AExit → AS → Prop} {s : AS} : condK P pl (.bool false) x y Q s = wpc P pl y Q s := by simp [condK]
theorem condK_cases {t : Bool} {x y : Code} {Q : AExit → AS → Prop} {s : AS} (h1 : t = true → wpc P pl x Q s) (h2 : t = false → wpc P pl y Q s) : condK P pl (.bool t) x y Q s := ⟨h1, h2⟩
theorem condK_bool {t : Bool} {x y : Code} {Q : AExit → AS → Prop} {s : AS} : condK P pl (.bool t) x y Q s = ((t = true → wpc P pl x Q s) ∧ (t = false → wpc P pl y Q s)) := rfl
@[simp] theorem wpc_block {id : Nat} {c : Code} {Q : AExit → AS → Prop} {s : AS} : wpc P pl (.block id c) Q s = wpc P pl c (inBlockA id Q) s := nr rfl
@[simp] theorem wpc_exit {id : Nat} {Q : AExit → AS → Prop} {s : AS} : wpc P pl (.exit id) Q s = Q (.exit id) s := nr rfl
@[simp] theorem wpc_goto {l : Nat} {Q : AExit → AS → Prop} {s : AS} : wpc P pl (.goto l) Q s = Q (.goto l) s := nr rfl
@[simp] theorem wpc_ret {Q : AExit → AS → Prop} {s : AS} : wpc P pl .ret Q s = Q .ret s := nr rfl
@[simp] theorem thenA_normal {K : AS → Prop} {Q : AExit → AS → Prop} {s : AS} : thenA K Q .normal s = K s := nr rfl
@[simp] theorem thenA_exit {K : AS → Prop} {Q : AExit → AS → Prop} {s : AS} {id : Nat} : thenA K Q (.exit id) s = Q (.exit id) s := nr rfl
@[simp] theorem thenA_goto {K : AS → Prop} {Q : AExit → AS → Prop} {s : AS} {id : Nat} : thenA K Q (.goto id) s = Q (.goto id) s := nr rfl
@[simp] theorem thenA_ret {K : AS → Prop} {Q : AExit → AS → Prop} {s : AS} : thenA K Q .ret s = Q .ret s := nr rfl
@[simp] theorem thenA_panic {K : AS → Prop} {Q : AExit → AS → Prop} {s : AS} {v : AV} : thenA K Q (.panic v) s = Q (.panic v) s := nr rfl
@[simp] theorem inBlockA_exit {id id' : Nat} {Q : AExit → AS → Prop} {s : AS} : inBlockA id Q (.exit id') s = if id' = id then Q .normal s else Q (.exit id') s := nr rfl
@[simp] theorem inBlockA_normal {id : Nat} {Q : AExit → AS → Prop} {s : AS} : inBlockA id Q .normal s = Q .normal s := nr rfl
@[simp] theorem inBlockA_goto {id l : Nat} {Q : AExit → AS → Prop} {s : AS} : inBlockA id Q (.goto l) s = Q (.goto l) s := nr rfl
@[simp] theorem inBlockA_ret {id : Nat} {Q : AExit → AS → Prop} {s : AS} : inBlockA id Q .ret s = Q .ret s := nr rfl
@[simp] theorem inBlockA_panic {id : Nat} {Q : AExit → AS → Prop} {s : AS} {v : AV} : inBlockA id Q (.panic v) s = Q (.panic v) s := nr rfl

/-! States. -/
@[simp] theorem get_zero {α : Type} {a : α} {l : List α} : (a :: l)[0]? = some a := rfl
@[simp] theorem get_succ {α : Type} {a : α} {l : List α} {n : Nat} : (a :: l)[n + 1]? = l[n]? := rfl
@[simp high] theorem get_32 {α : Type} {a0 a1 a2 a3 a4 a5 a6 a7 a8 a9 a10 a11 a12 a13 a14 a15 a16 a17 a18 a19 a20 a21 a22 a23 a24 a25 a26 a27 a28 a29 a30 a31 : α} {l : List α} {n : Nat} : (a0 :: a1 :: a2 :: a3 :: a4 :: a5 :: a6 :: a7 :: a8 :: a9 :: a10 :: a11 :: a12 :: a13 :: a14 :: a15 :: a16 :: a17 :: a18 :: a19 :: a20 :: a21 :: a22 :: a23 :: a24 :: a25 :: a26 :: a27 :: a28 :: a29 :: a30 :: a31 :: l)[n + 32]? = l[n]? := rfl
@[simp high] theorem set_32 {α : Type} {a0 a1 a2 a3 a4 a5 a6 a7 a8 a9 a10 a11 a12 a13 a14 a15 a16 a17 a18 a19 a20 a21 a22 a23 a24 a25 a26 a27 a28 a29 a30 a31 v : α} {l : List α} {n : Nat} : (a0 :: a1 :: a2 :: a3 :: a4 :: a5 :: a6 :: a7 :: a8 :: a9 :: a10 :: a11 :: a12 :: a13 :: a14 :: a15 :: a16 :: a17 :: a18 :: a19 :: a20 :: a21 :: a22 :: a23 :: a24 :: a25 :: a26 :: a27 :: a28 :: a29 :: a30 :: a31 :: l).set (n + 32) v = a0 :: a1 :: a2 :: a3 :: a4 :: a5 :: a6 :: a7 :: a8 :: a9 :: a10 :: a11 :: a12 :: a13 :: a14 :: a15 :: a16 :: a17 :: a18 :: a19 :: a20 :: a21 :: a22 :: a23 :: a24 :: a25 :: a26 :: a27 :: a28 :: a29 :: a30 :: a31 :: l.set n v := rfl
@[simp high] theorem get_8 {α : Type} {a0 a1 a2 a3 a4 a5 a6 a7 : α} {l : List α} {n : Nat} : (a0 :: a1 :: a2 :: a3 :: a4 :: a5 :: a6 :: a7 :: l)[n + 8]? = l[n]? := rfl
@[simp high] theorem set_8 {α : Type} {a0 a1 a2 a3 a4 a5 a6 a7 v : α} {l : List α} {n : Nat} : (a0 :: a1 :: a2 :: a3 :: a4 :: a5 :: a6 :: a7 :: l).set (n + 8) v = a0 :: a1 :: a2 :: a3 :: a4 :: a5 :: a6 :: a7 :: l.set n v := rfl
@[simp] theorem AS.setSt_mk {tm : List AV} {σ τ : Store} {ns : Nm} {c : Nat} {d : List ADf} {F : Fre} : AS.setSt ⟨tm, σ, ns, c, d, F⟩ τ = ⟨tm, τ, ns, c, d, F⟩ := rfl
@[simp] theorem AS.put_some_mk {tm : List AV} {σ : Store} {ns : Nm} {c : Nat} {d : List ADf} {F : Fre} {k : Nat} {v : AV} : AS.put ⟨tm, σ, ns, c, d, F⟩ (some k) v = ⟨tm.set k v, σ, ns, c, d, F⟩ := rfl
@[simp] theorem AS.setYd_mk {tm : List AV} {σ τ : Store} {ns : Nm} {c : Nat} {d : List ADf} {F G : Fre} : AS.setYd ⟨tm, σ, ns, c, d, F⟩ τ G = ⟨tm, τ, ns, c, d, G⟩ := rfl
@[simp] theorem AS.put_none {s : AS} {v : AV} : s.put none v = s := rfl
@[simp] theorem AS.bump_mk {tm : List AV} {σ : Store} {ns : Nm} {c : Nat} {d : List ADf} {F : Fre} : AS.bump ⟨tm, σ, ns, c, d, F⟩ = ⟨tm, σ, ns, c + 1, d, F⟩ := rfl
@[simp] theorem AS.ev_tmp {s : AS} {t : Tmp} : s.ev (.tmp t) = (s.tmps[t]?).getD .any := rfl
@[simp] theorem AS.ev_const {s : AS} {v : Value} : s.ev (.const v) = ofValue v := rfl
@[simp] theorem AS.ev_func {s : AS} {f : FuncId} : s.ev (.func f) = .fn (.func f) [] [] := rfl
@[simp] theorem ofValue_int {k : IntKind} {n : Int} : ofValue (.int k n) = .int k n := rfl
@[simp] theorem ofValue_bool {b : Bool} : ofValue (.bool b) = .bool b := rfl
@[simp] theorem ofValue_string {s : ByteArray} : ofValue (.string s) = .str s := rfl
@[simp] theorem ofValue_nilptr : ofValue (.pointer none) = .nilptr := rfl
@[simp] theorem ofValue_nilsl : ofValue (.slice none 0 0) = .sl 0 [] .nil := rfl
@[simp] theorem ofValue_nilmap : ofValue (.map none) = .nilmap := rfl
@[simp] theorem ofValue_nilfn : ofValue .nilFunc = .nilfn := rfl
@[simp] theorem ofValue_nilifc : ofValue .nilIface = .nilifc := rfl
@[simp] theorem ofValue_agg {l : List Value} : ofValue (.agg l.toArray) = .agg (l.map ofCell) := rfl
@[simp] theorem ofCell_int {k : IntKind} {n : Int} : ofCell (.int k n) = .int k n := rfl
@[simp] theorem ofCell_bool {b : Bool} : ofCell (.bool b) = .bool b := rfl
@[simp] theorem ofCell_string {s : ByteArray} : ofCell (.string s) = .str s := rfl
@[simp] theorem ofCell_nilptr : ofCell (.pointer none) = .nilptr := rfl
@[simp] theorem ofCell_nilsl : ofCell (.slice none 0 0) = .sl 0 [] .nil := rfl
@[simp] theorem ofCell_nilmap : ofCell (.map none) = .nilmap := rfl
@[simp] theorem ofCell_nilfn : ofCell .nilFunc = .nilfn := rfl
@[simp] theorem ofCell_nilifc : ofCell .nilIface = .nilifc := rfl

/-! Operations, by their constructors. -/
section
variable {n : Nm} {e : Operand → AV} {σ : Store}
/-- A quiet operation's value, as an effect. -/
def qval (v : Option AV) (σ : Store) : AEff := match v with | some v => .val v σ | none => .bad
@[simp] theorem qval_some {v : AV} : qval (some v) σ = .val v σ := rfl
@[simp] theorem qval_none : qval none σ = .bad := rfl
@[simp] theorem aeff_alloc {t : TypeId} : aeff P n e σ (.alloc t) = match tyZero P t with | some z => .val (.ptr n 0) (σ.up n (.var z)) | none => .bad := rfl
@[simp] theorem aeff_box {t : TypeId} {x : Operand} : aeff P n e σ (.box t x) = match (e x).cells? with | some cs => .val (.ptr n 0) (σ.up n (.var cs)) | none => .bad := rfl
@[simp] theorem aeff_store {t : TypeId} {a x : Operand} : aeff P n e σ (.store t a x) = match astore P σ t (e a) (e x) with | some σ' => .skip σ' | none => .bad := rfl
@[simp] theorem aeff_buildSlice {t : TypeId} {len : Nat} {l : List (Nat × Operand)} : aeff P n e σ (.buildSlice t len l.toArray) = qval (abuildSlice P t len (l.map fun p => (p.1, e p.2))) σ := by
  simp only [aeff, qval]; rfl
@[simp] theorem aeff_makeMap {t : TypeId} : aeff P n e σ (.makeMap t none) = .val (.map n) (σ.up n (.map [])) := rfl
@[simp] theorem aeff_makeMapR {t : TypeId} {o : Operand} : aeff P n e σ (.makeMap t (some o)) = match e o, tyMap P t with | .int _ _, some _ => .val (.map n) (σ.up n (.map [])) | _, _ => .bad := rfl
@[simp] theorem aeff_lookup {t : TypeId} {x i : Operand} {ok : Bool} : aeff P n e σ (.lookup t x i ok) = qval (alookup P σ t (e x) (e i) ok) σ := rfl
@[simp] theorem aeff_insert {t : TypeId} {m k v : Operand} : aeff P n e σ (.insert t m k v) = match amapUpdate P σ t (e m) (e k) (e v) with | some σ' => .skip σ' | none => .bad := rfl
@[simp] theorem aeff_mapUpdate {t : TypeId} {m k v : Operand} : aeff P n e σ (.mapUpdate t m k v) = match amapUpdate P σ t (e m) (e k) (e v) with | some σ' => .skip σ' | none => .bad := rfl
/-- append, as the name tells: by value, or rows. -/
def aappM (P : Program) (n : Nm) (σ : Store) (ts : Array TypeId) (s x : AV) : Option (AV × Store) := if n.rows = true then aappendR P n σ ts s x else aappend P n σ ts s x
@[simp] theorem aappM_val {n : Nm} [h : ByVal n] {σ : Store} {ts : Array TypeId} {s x : AV} : aappM P n σ ts s x = aappend P n σ ts s x := by simp [aappM, h.h]
@[simp] theorem aappM_row {n : Nm} [h : ByRow n] {σ : Store} {ts : Array TypeId} {s x : AV} : aappM P n σ ts s x = aappendR P n σ ts s x := by simp [aappM, h.h]
@[simp] theorem aeff_append {l : List Operand} {ts : Array TypeId} : aeff P n e σ (.call { callee := .builtin .append, args := l.toArray, argTypes := ts }) =
    match l.map e with | [s, x] => (match aappM P n σ ts s x with | some (v, σ') => .val v σ' | none => .bad) | _ => .bad := rfl
@[simp] theorem aeff_len {l : List Operand} {ts : Array TypeId} : aeff P n e σ (.call { callee := .builtin .len, args := l.toArray, argTypes := ts }) = qval (abuiltin P .len ts (l.map e)) σ := rfl
@[simp] theorem aeff_min {l : List Operand} {ts : Array TypeId} : aeff P n e σ (.call { callee := .builtin .min, args := l.toArray, argTypes := ts }) = qval (abuiltin P .min ts (l.map e)) σ := rfl
@[simp] theorem aeff_max {l : List Operand} {ts : Array TypeId} : aeff P n e σ (.call { callee := .builtin .max, args := l.toArray, argTypes := ts }) = qval (abuiltin P .max ts (l.map e)) σ := rfl
@[simp] theorem aeff_value {f : Operand} {l : List Operand} {ts : Array TypeId} : aeff P n e σ (.call { callee := .value f, args := l.toArray, argTypes := ts }) =
    match e f with | .fn (.func g) first caps => .call g (first ++ l.map e ++ caps) | .fn (.yield j) [] [] => .yield j (l.map e) | _ => .bad := rfl
@[simp] theorem aeff_panic {x : Operand} : aeff P n e σ (.panic x) = match e x with | .ifc t v => .panic (.ifc t v) | _ => .bad := rfl
@[simp] theorem aeff_move {x : Operand} : aeff P n e σ (.move x) = .val (e x) σ := rfl
@[simp] theorem aeff_assign {x : Operand} : aeff P n e σ (.assign x) = .val (e x) σ := rfl
/-- A choice between two values. -/
def pickV (c a b : AV) : Option AV := match c with
  | .bool t => some (if t then a else b)
  | _ => none
@[simp] theorem pickV_true {a b : AV} : pickV (.bool true) a b = some a := rfl
@[simp] theorem pickV_false {a b : AV} : pickV (.bool false) a b = some b := rfl
@[simp] theorem pickV_bool {t x y : Bool} : pickV (.bool t) (.bool x) (.bool y) = some (.bool (bif t then x else y)) := by cases t <;> rfl
@[simp] theorem pickV_int {t : Bool} {k : IntKind} {x y : Int} : pickV (.bool t) (.int k x) (.int k y) = some (.int k (if t then x else y)) := by cases t <;> rfl
@[simp] theorem aeff_pick {c a b : Operand} : aeff P n e σ (.pick c a b) = qval (pickV (e c) (e a) (e b)) σ := by
  simp only [aeff, aquiet, pickV]; cases e c <;> rfl
@[simp] theorem aeff_load {t : TypeId} {a : Operand} : aeff P n e σ (.load t a) = qval (aload P σ t (e a)) σ := rfl
@[simp] theorem aeff_fieldAddr {t : TypeId} {x : Operand} {f : Nat} : aeff P n e σ (.fieldAddr t x f) = qval (afieldAddr P t (e x) f) σ := rfl
@[simp] theorem aeff_field {t : TypeId} {x : Operand} {f : Nat} : aeff P n e σ (.field t x f) = qval (afield P t (e x) f) σ := rfl
@[simp] theorem aeff_indexAddr {t : TypeId} {x i : Operand} : aeff P n e σ (.indexAddr t x i) = qval (aindexAddr P t (e x) (e i)) σ := rfl
@[simp] theorem aeff_index {t : TypeId} {x i : Operand} : aeff P n e σ (.index t x i) = qval (aindex P t (e x) (e i)) σ := rfl
@[simp] theorem aeff_build {t : TypeId} {l : List (Nat × Operand)} : aeff P n e σ (.build t l.toArray) = qval (abuild P t (l.map fun p => (p.1, e p.2))) σ := rfl
@[simp] theorem aeff_makeFunc {f : Fn} {l1 l2 : List Operand} : aeff P n e σ (.makeFunc f l1.toArray l2.toArray) = .val (.fn f (l1.map e) (l2.map e)) σ := rfl
@[simp] theorem aeff_makeInterface {t : TypeId} {x : Operand} : aeff P n e σ (.makeInterface t x) = qval (if tyIface P t = some false then some (.ifc t (e x)) else none) σ := rfl
@[simp] theorem aeff_extract {t : Operand} {i : Nat} : aeff P n e σ (.extract t i) = qval (match e t with | .tup vs => vs[i]? | _ => none) σ := rfl
@[simp] theorem aeff_nilCheck {x : Operand} : aeff P n e σ (.nilCheck x) = qval (match e x with | .ptr n i => some (.ptr n i) | .cptr cs => some (.cptr cs) | _ => none) σ := rfl
@[simp] theorem aeff_binOp {op : BinOp} {t yt : TypeId} {x y : Operand} : aeff P n e σ (.binOp op t x y yt) = qval (abin P op t x y (e x) (e y)) σ := rfl
@[simp] theorem aeff_unOp {op : UnOp} {t : TypeId} {x : Operand} : aeff P n e σ (.unOp op t x) = qval (aun op (e x)) σ := rfl
@[simp] theorem aeff_convert {s d : TypeId} {x : Operand} : aeff P n e σ (.convert s d x) = qval (aconv P s d (e x)) σ := rfl
@[simp] theorem aeff_slice {t : TypeId} {x : Operand} {lo hi mx : Option Operand} : aeff P n e σ (.slice t x lo hi mx) = qval (aslice P t (e x) (lo.map e) (hi.map e) (mx.map e)) σ := rfl
end

@[simp] theorem cells?_agg {cs : List AV} : AV.cells? (.agg cs) = some cs := rfl
@[simp] theorem cells?_int {k : IntKind} {n : Int} : AV.cells? (.int k n) = some [.int k n] := rfl
@[simp] theorem cells?_bool {b : Bool} : AV.cells? (.bool b) = some [.bool b] := rfl
@[simp] theorem cells?_str {b : ByteArray} : AV.cells? (.str b) = some [.str b] := rfl
@[simp] theorem cells?_nilptr : AV.cells? .nilptr = some [.nilptr] := rfl
@[simp] theorem cells?_ptr {n : Nm} {i : Nat} : AV.cells? (.ptr n i) = some [.ptr n i] := rfl
@[simp] theorem cells?_cptr {cs : List AV} : AV.cells? (.cptr cs) = some [.cptr cs] := rfl
@[simp] theorem cells?_sl {sz : Nat} {es : List (List AV)} {c : Cap} : AV.cells? (.sl sz es c) = some [.sl sz es c] := rfl
@[simp] theorem cells?_slv {n : Nm} {sz len : Nat} : AV.cells? (.slv n sz len) = some [.slv n sz len] := rfl
@[simp] theorem cells?_map {n : Nm} : AV.cells? (.map n) = some [.map n] := rfl
@[simp] theorem cells?_nilmap : AV.cells? .nilmap = some [.nilmap] := rfl
@[simp] theorem cells?_fn {f : Fn} {a b : List AV} : AV.cells? (.fn f a b) = some [.fn f a b] := rfl
@[simp] theorem cells?_nilfn : AV.cells? .nilfn = some [.nilfn] := rfl
@[simp] theorem cells?_ifc {t : TypeId} {v : AV} : AV.cells? (.ifc t v) = some [.ifc t v] := rfl
@[simp] theorem cells?_nilifc : AV.cells? .nilifc = some [.nilifc] := rfl
@[simp] theorem cells?_anyb : AV.cells? .anyb = some [.anyb] := rfl
@[simp] theorem one_any : AV.one .any = false := nr rfl
@[simp] theorem one_agg {cs : List AV} : AV.one (.agg cs) = false := nr rfl
@[simp] theorem one_tup {cs : List AV} : AV.one (.tup cs) = false := nr rfl
@[simp] theorem one_int {k : IntKind} {n : Int} : AV.one (.int k n) = true := nr rfl
@[simp] theorem one_bool {b : Bool} : AV.one (.bool b) = true := nr rfl
@[simp] theorem one_anyb : AV.one .anyb = true := nr rfl
@[simp] theorem one_str {b : ByteArray} : AV.one (.str b) = true := nr rfl
@[simp] theorem one_nilptr : AV.one .nilptr = true := nr rfl
@[simp] theorem one_ptr {n : Nm} {i : Nat} : AV.one (.ptr n i) = true := nr rfl
@[simp] theorem one_cptr {cs : List AV} : AV.one (.cptr cs) = true := nr rfl
@[simp] theorem one_sl {sz : Nat} {es : List (List AV)} {c : Cap} : AV.one (.sl sz es c) = true := nr rfl
@[simp] theorem one_slv {n : Nm} {sz len : Nat} : AV.one (.slv n sz len) = true := nr rfl
@[simp] theorem one_map {n : Nm} : AV.one (.map n) = true := nr rfl
@[simp] theorem one_nilmap : AV.one .nilmap = true := nr rfl
@[simp] theorem one_fn {f : Fn} {a b : List AV} : AV.one (.fn f a b) = true := nr rfl
@[simp] theorem one_nilfn : AV.one .nilfn = true := nr rfl
@[simp] theorem one_ifc {t : TypeId} {v : AV} : AV.one (.ifc t v) = true := nr rfl
@[simp] theorem one_nilifc : AV.one .nilifc = true := nr rfl
attribute [simp] slNil
attribute [simp] aload aread astore apart afield afieldAddr aindexAddr aindex afill placeOf abuild abuildSlice abin aguard aint astr aun aconv abound aslice isConst
section
variable {ts : Array TypeId} {k k1 k2 k3 : IntKind} {a b c d : Int}
@[simp] theorem abuiltin_len_str {s : ByteArray} : abuiltin P .len ts [.str s] = if tyStr P (ts.getD 0 0) = true ∧ 0 < ts.size then some (.int .i64 s.size) else none := nr rfl
@[simp] theorem abuiltin_len_sl {sz : Nat} {es : List (List AV)} {c : Cap} : abuiltin P .len ts [.sl sz es c] = if (tyElem P (ts.getD 0 0)).isSome = true ∧ 0 < ts.size then some (.int .i64 es.length) else none := nr rfl
@[simp] theorem abuiltin_len_slv {m : Nm} {sz len : Nat} : abuiltin P .len ts [.slv m sz len] = if (tyElem P (ts.getD 0 0)).isSome = true ∧ 0 < ts.size then some (.int .i64 len) else none := nr rfl
@[simp] theorem abuiltin_min2 : abuiltin P .min ts [.int k a, .int k1 b] = some (.int k (if b < a then b else a)) := nr rfl
@[simp] theorem abuiltin_max2 : abuiltin P .max ts [.int k a, .int k1 b] = some (.int k (if a < b then b else a)) := nr rfl
@[simp] theorem abuiltin_min3 : abuiltin P .min ts [.int k a, .int k1 b, .int k2 c] = some (.int k (if c < (if b < a then b else a) then c else (if b < a then b else a))) := nr rfl
@[simp] theorem abuiltin_max3 : abuiltin P .max ts [.int k a, .int k1 b, .int k2 c] = some (.int k (if (if a < b then b else a) < c then c else (if a < b then b else a))) := nr rfl
@[simp] theorem abuiltin_min4 : abuiltin P .min ts [.int k a, .int k1 b, .int k2 c, .int k3 d] = some (.int k (min4 a b c d)) := nr rfl
@[simp] theorem abuiltin_max4 : abuiltin P .max ts [.int k a, .int k1 b, .int k2 c, .int k3 d] = some (.int k (max4 a b c d)) := nr rfl
end
@[simp] theorem aappend_sl {n : Nm} {σ : Store} {ts : Array TypeId} {sz sz' : Nat} {es es' : List (List AV)} {c c' : Cap} : aappend P n σ ts (.sl sz es c) (.sl sz' es' c') = match tyElem P (ts.getD 0 0), tyElem P (ts.getD 1 0) with
    | some e, some _ => match tySize P e, tyBytes P e, tyZero P e with
      | some k, some b, some z =>
        if ts.size = 2 ∧ 0 < k ∧ 0 < b ∧ z.length = k ∧ (es.isEmpty = true ∨ sz = k) ∧ (es'.isEmpty = true ∨ sz' = k) ∧ (es.length + es'.length) * b ≤ 140737488355328 then
          if es'.isEmpty = true then some (.sl sz es c, σ) else
          match c with
          | .exact => some (.sl k (es ++ es') (.tok n), σ.up n .tok)
          | .nil => some (.sl k (es ++ es') (.tok n), σ.up n .tok)
          | .tok m => match σ m with
            | some .tok => if sz = k ∧ es'.all (fun e => e.all AV.one) = true then some (.sl k (es ++ es') (.tok n), (σ.del m).up n .tok) else none
            | _ => none
          | .unk => none
        else none
      | _, _, _ => none
    | _, _ => none := nr rfl
attribute [simp] alookup amapOf amapUpdate afind sameKey keyFits
attribute [simp] Store.up_get Store.del

/-- A test that is not decided yet. -/
theorem condK_intro {t : Bool} {x y : Code} {Q : AExit → AS → Prop} {s : AS} (h1 : t = true → wpc P pl x Q s) (h2 : t = false → wpc P pl y Q s) : condK P pl (.bool t) x y Q s := ⟨h1, h2⟩

/-- 0, 1, 2, .. -/
def cntUp : List Nat → Nat → Option Nat
  | [], k => some k
  | x :: r, k => if x = k then cntUp r (k + 1) else none
theorem cntUp_spec : ∀ (l : List Nat) (k n : Nat), (cntUp l k = some n) ↔ (l = List.range' k l.length ∧ n = k + l.length)
  | [], k, n => by simp [cntUp, eq_comm]
  | x :: r, k, n => by
    simp only [cntUp, List.length_cons, List.range'_succ, List.cons.injEq]
    by_cases h : x = k
    · rw [if_pos h, cntUp_spec r (k + 1) n]; simp only [h, true_and]
      constructor
      · rintro ⟨h1, h2⟩; exact ⟨h1, by omega⟩
      · rintro ⟨h1, h2⟩; exact ⟨h1, by omega⟩
    · rw [if_neg h]; simp [h]
@[simp] theorem eq_range {x : Nat} {l : List Nat} {n : Nat} : (x :: l = List.range n) = (cntUp (x :: l) 0 = some n) := by
  refine propext ⟨fun h => (cntUp_spec _ 0 n).2 ?_, fun h => ?_⟩
  · have hl : (x :: l).length = n := by rw [h]; simp
    rw [hl]; exact ⟨by rw [h, List.range_eq_range'], by omega⟩
  · obtain ⟨h1, h2⟩ := (cntUp_spec _ 0 n).1 h
    rw [List.range_eq_range', h2, Nat.zero_add]; exact h1
attribute [simp] cntUp

/-! Calls. -/
theorem Pure.use {f : FuncId} {args : List AV} {v : AV} (h : Pure P f args v) {n : Nm} {dst : Option Tmp} {K : AS → Prop} {Q : AExit → AS → Prop} {s : AS} (hk : K (s.put dst v)) : CallK P f args n dst K Q s :=
  (h s.st n).mono fun e σ' ⟨he, hσ⟩ => by subst he; subst hσ; exact hk
theorem CallK.of {f : FuncId} {args : List AV} {n : Nm} {dst : Option Tmp} {K : AS → Prop} {Q : AExit → AS → Prop} {s : AS} {R : AEnd → Store → Prop} (h : ACalls P f args s.st n R)
    (hr : ∀ v σ, R (.ret v) σ → K ((s.setSt σ).put dst v)) (hp : ∀ v σ, R (.panic v) σ → Q (.panic v) (s.setSt σ).bump) : CallK P f args n dst K Q s :=
  h.mono fun e σ' h => by cases e with | ret v => exact hr v σ' h | panic v => exact hp v σ' h
theorem CallK.use {f : FuncId} {args : List AV} {n : Nm} {dst : Option Tmp} {K : AS → Prop} {Q : AExit → AS → Prop} {s : AS} {v : AV} {τ : Store} (h : ACalls P f args s.st n fun e σ' => e = .ret v ∧ σ' = τ) (hk : K ((s.setSt τ).put dst v)) : CallK P f args n dst K Q s :=
  h.mono fun e σ' ⟨he, hσ⟩ => by subst he; subst hσ; exact hk

/-! Ends. -/
theorem StWeak.restore {ns : Nm} {σ τ : Store} (ks : List Nm) : StWeak ns σ τ (restoreS ns ks σ τ) := fun n => by
  unfold restoreS
  by_cases h : n.under ns = true ∧ n ∉ ks
  · rw [if_pos h]; exact .inl ⟨h.1, rfl⟩
  · rw [if_neg h]; exact .inr fun o ho => ⟨o, ho, .inl rfl⟩
@[simp] theorem restoreS_self (ns : Nm) (ks : List Nm) (σ : Store) : restoreS ns ks σ σ = σ := by funext n; simp [restoreS]
theorem restoreS_up_in {ns : Nm} {ks : List Nm} {σ τ : Store} {n : Nm} {o : AObj} (h1 : n.under ns = true) (h2 : n ∉ ks) : restoreS ns ks σ (τ.up n o) = restoreS ns ks σ τ := by
  funext m; unfold restoreS Store.up
  by_cases e : m = n
  · subst e; simp [h1, h2]
  · simp [e]
theorem restoreS_up_out {ns : Nm} {ks : List Nm} {σ τ : Store} {n : Nm} {o : AObj} (h1 : n.under ns = false) : restoreS ns ks σ (τ.up n o) = (restoreS ns ks σ τ).up n o := by
  funext m; unfold restoreS Store.up
  by_cases e : m = n
  · subst e; simp [h1]
  · simp [e]
theorem restoreS_up_kept {ns : Nm} {ks : List Nm} {σ τ : Store} {n : Nm} {o : AObj} (h1 : n ∈ ks) : restoreS ns ks σ (τ.up n o) = (restoreS ns ks σ τ).up n o := by
  funext m; unfold restoreS Store.up
  by_cases e : m = n
  · subst e; simp [h1]
  · simp [e]
theorem restoreS_left_out {ns : Nm} {ks : List Nm} {σ τ : Store} {n : Nm} {o : AObj} (h1 : n.under ns = false) : restoreS ns ks (σ.up n o) τ = restoreS ns ks σ τ := by
  funext m; unfold restoreS Store.up
  by_cases e : m = n
  · subst e; simp [h1]
  · simp [e]
theorem Nm.under_sub_of {n m : Nm} {i : Nat} (h : n.under m = true) : (n.sub i).under m = true := by simp [Nm.under, h]
@[simp] theorem Nm.not_under_deep3 {n : Nm} {i0 i1 i2 : Nat} : n.under (((n.sub i0).sub i1).sub i2) = false := by
  cases h : n.under (((n.sub i0).sub i1).sub i2) with
  | false => rfl
  | true => have := Nm.depth_of_under h; simp [Nm.depth] at this; omega
@[simp] theorem Nm.not_under_deep4 {n : Nm} {i0 i1 i2 i3 : Nat} : n.under ((((n.sub i0).sub i1).sub i2).sub i3) = false := by
  cases h : n.under ((((n.sub i0).sub i1).sub i2).sub i3) with
  | false => rfl
  | true => have := Nm.depth_of_under h; simp [Nm.depth] at this; omega
@[simp] theorem Nm.ne_deep4 {n : Nm} {i0 i1 i2 i3 : Nat} : ¬ (n = ((((n.sub i0).sub i1).sub i2).sub i3)) := fun h => by
  have := congrArg Nm.depth h; simp [Nm.depth] at this; omega
@[simp] theorem Nm.not_under_deep5 {n : Nm} {i0 i1 i2 i3 i4 : Nat} : n.under (((((n.sub i0).sub i1).sub i2).sub i3).sub i4) = false := by
  cases h : n.under (((((n.sub i0).sub i1).sub i2).sub i3).sub i4) with
  | false => rfl
  | true => have := Nm.depth_of_under h; simp [Nm.depth] at this; omega
@[simp] theorem Nm.ne_deep5 {n : Nm} {i0 i1 i2 i3 i4 : Nat} : ¬ (n = (((((n.sub i0).sub i1).sub i2).sub i3).sub i4)) := fun h => by
  have := congrArg Nm.depth h; simp [Nm.depth] at this; omega
@[simp] theorem Nm.not_under_deep6 {n : Nm} {i0 i1 i2 i3 i4 i5 : Nat} : n.under ((((((n.sub i0).sub i1).sub i2).sub i3).sub i4).sub i5) = false := by
  cases h : n.under ((((((n.sub i0).sub i1).sub i2).sub i3).sub i4).sub i5) with
  | false => rfl
  | true => have := Nm.depth_of_under h; simp [Nm.depth] at this; omega
@[simp] theorem Nm.ne_deep6 {n : Nm} {i0 i1 i2 i3 i4 i5 : Nat} : ¬ (n = ((((((n.sub i0).sub i1).sub i2).sub i3).sub i4).sub i5)) := fun h => by
  have := congrArg Nm.depth h; simp [Nm.depth] at this; omega
@[simp] theorem Nm.under_sub_deep2 {n : Nm} {i0 i1 : Nat} : ((n.sub i0).sub i1).under n = true := by simp [Nm.under]
@[simp] theorem Nm.under_sub_deep3 {n : Nm} {i0 i1 i2 : Nat} : (((n.sub i0).sub i1).sub i2).under n = true := by simp [Nm.under]
@[simp] theorem Nm.under_sub_deep4 {n : Nm} {i0 i1 i2 i3 : Nat} : ((((n.sub i0).sub i1).sub i2).sub i3).under n = true := by simp [Nm.under]
@[simp] theorem Nm.under_sub_deep5 {n : Nm} {i0 i1 i2 i3 i4 : Nat} : (((((n.sub i0).sub i1).sub i2).sub i3).sub i4).under n = true := by simp [Nm.under]
@[simp] theorem Nm.under_sub_deep6 {n : Nm} {i0 i1 i2 i3 i4 i5 : Nat} : ((((((n.sub i0).sub i1).sub i2).sub i3).sub i4).sub i5).under n = true := by simp [Nm.under]
@[simp] theorem Nm.under_sub_deep7 {n : Nm} {i0 i1 i2 i3 i4 i5 i6 : Nat} : (((((((n.sub i0).sub i1).sub i2).sub i3).sub i4).sub i5).sub i6).under n = true := by simp [Nm.under]
@[simp] theorem Nm.under_sub_deep8 {n : Nm} {i0 i1 i2 i3 i4 i5 i6 i7 : Nat} : ((((((((n.sub i0).sub i1).sub i2).sub i3).sub i4).sub i5).sub i6).sub i7).under n = true := by simp [Nm.under]
@[simp] theorem Nm.under_sub_deep9 {n : Nm} {i0 i1 i2 i3 i4 i5 i6 i7 i8 : Nat} : (((((((((n.sub i0).sub i1).sub i2).sub i3).sub i4).sub i5).sub i6).sub i7).sub i8).under n = true := by simp [Nm.under]
@[simp] theorem Nm.under_sub_deep10 {n : Nm} {i0 i1 i2 i3 i4 i5 i6 i7 i8 i9 : Nat} : ((((((((((n.sub i0).sub i1).sub i2).sub i3).sub i4).sub i5).sub i6).sub i7).sub i8).sub i9).under n = true := by simp [Nm.under]
@[simp] theorem Nm.under_sub_deep11 {n : Nm} {i0 i1 i2 i3 i4 i5 i6 i7 i8 i9 i10 : Nat} : (((((((((((n.sub i0).sub i1).sub i2).sub i3).sub i4).sub i5).sub i6).sub i7).sub i8).sub i9).sub i10).under n = true := by simp [Nm.under]
@[simp] theorem Nm.under_sub_deep12 {n : Nm} {i0 i1 i2 i3 i4 i5 i6 i7 i8 i9 i10 i11 : Nat} : ((((((((((((n.sub i0).sub i1).sub i2).sub i3).sub i4).sub i5).sub i6).sub i7).sub i8).sub i9).sub i10).sub i11).under n = true := by simp [Nm.under]
@[simp] theorem restoreS_up_own {ns n : Nm} {σ τ : Store} {o : AObj} (h : n.under ns = true) : restoreS ns [] σ (τ.up n o) = restoreS ns [] σ τ := restoreS_up_in h (by simp)
/-- .. told with what has been told of it. -/
theorem StWeak.of_eq {ns : Nm} {σ τ σ' : Store} (h : restoreS ns [] σ τ = σ') : StWeak ns σ τ σ' := h ▸ StWeak.restore []
/-- The store as it was: nothing but the call's own names has turned. -/
theorem StWeak.same {ns : Nm} {σ τ : Store} (h : restoreS ns [] σ τ = σ) : StWeak ns σ τ σ := by
  have := StWeak.restore (ns := ns) (σ := σ) (τ := τ) []
  rwa [h] at this

/-! Results. -/
/-- A result's value. -/
def aresultK (P : Program) (s : AS) (r : ResultVar) : Option AV := aresult P s r
@[simp] theorem aresult_tmp {s : AS} {t : Tmp} : aresult P s (.tmp t) = s.tmps[t]? := rfl
@[simp] theorem aresult_cell {s : AS} {a : Tmp} {t : TypeId} : aresult P s (.cell a t) = (s.tmps[a]?).bind fun v => aload P s.st t v := by
  simp only [aresult]; cases s.tmps[a]? <;> rfl
@[simp] theorem aresults_nil {s : AS} : aresults P [] s = some (.tup []) := rfl
@[simp] theorem aresults_one {s : AS} {r : ResultVar} : aresults P [r] s = aresult P s r := by
  simp only [aresults, List.mapM_cons, List.mapM_nil]; cases aresult P s r <;> rfl
@[simp] theorem aresults_two {s : AS} {r1 r2 : ResultVar} : aresults P [r1, r2] s = (aresult P s r1).bind fun a => (aresult P s r2).bind fun b => some (.tup [a, b]) := by
  simp only [aresults, List.mapM_cons, List.mapM_nil]; cases aresult P s r1 <;> cases aresult P s r2 <;> rfl
@[simp] theorem aresults_three {s : AS} {r1 r2 r3 : ResultVar} : aresults P [r1, r2, r3] s = (aresult P s r1).bind fun a => (aresult P s r2).bind fun b => (aresult P s r3).bind fun c => some (.tup [a, b, c]) := by
  simp only [aresults, List.mapM_cons, List.mapM_nil]; cases aresult P s r1 <;> cases aresult P s r2 <;> cases aresult P s r3 <;> rfl
@[simp] theorem aresults_four {s : AS} {r1 r2 r3 r4 : ResultVar} : aresults P [r1, r2, r3, r4] s = (aresult P s r1).bind fun a => (aresult P s r2).bind fun b => (aresult P s r3).bind fun c => (aresult P s r4).bind fun d => some (.tup [a, b, c, d]) := by
  simp only [aresults, List.mapM_cons, List.mapM_nil]; cases aresult P s r1 <;> cases aresult P s r2 <;> cases aresult P s r3 <;> cases aresult P s r4 <;> rfl
/-- The end of a function, by its parts. -/
def endA (v : Option AV) (τ : Store) (d : List ADf) (σ : Store) (ns : Nm) (R : AEnd → Store → Prop) : Prop :=
  d = [] ∧ ∃ u, v = some u ∧ ∃ v' σ', AVle u v' ∧ StWeak ns σ τ σ' ∧ R (.ret v') σ'
@[congr] theorem endA_congr {v v' : Option AV} {τ τ' : Store} {d d' : List ADf} {σ : Store} {ns : Nm} {R : AEnd → Store → Prop} (h1 : idm v = v') (h2 : τ = τ') (h3 : d = d') : endA v τ d σ ns R = endA v' τ' d' σ ns R := by rw [← h1, idm_eq, h2, h3]
@[simp] theorem bodyA_ret_eq {rs : List ResultVar} {σ : Store} {ns : Nm} {R : AEnd → Store → Prop} {s : AS} : bodyA P rs σ ns R .ret s = endA (aresults P rs s) s.st s.dfs σ ns R := nr rfl
@[simp] theorem bodyA_normal_eq {rs : List ResultVar} {σ : Store} {ns : Nm} {R : AEnd → Store → Prop} {s : AS} : bodyA P rs σ ns R .normal s = endA (aresults P rs s) s.st s.dfs σ ns R := nr rfl
theorem endA_intro {v : AV} {τ σ : Store} {ns : Nm} {R : AEnd → Store → Prop} {σ' : Store} (hw : StWeak ns σ τ σ') (hr : R (.ret v) σ') : endA (some v) τ [] σ ns R := ⟨rfl, v, rfl, v, σ', .refl v, hw, hr⟩
theorem endA_pure {v : AV} {τ σ : Store} {ns : Nm} (hw : restoreS ns [] σ τ = σ) : endA (some v) τ [] σ ns (fun e σ' => e = .ret v ∧ σ' = σ) := endA_intro (.same hw) ⟨rfl, rfl⟩
theorem restoreS_up_own1 {ns : Nm} {σ τ : Store} {i : Nat} {o : AObj} : restoreS ns [] σ (τ.up (ns.sub i) o) = restoreS ns [] σ τ := restoreS_up_in (by simp) (by simp)
theorem restoreS_up_own2 {ns : Nm} {σ τ : Store} {i j : Nat} {o : AObj} : restoreS ns [] σ (τ.up ((ns.sub i).sub j) o) = restoreS ns [] σ τ := restoreS_up_in (by simp [Nm.under]) (by simp)
/-! Loops, with ghost parameters. -/
@[congr] theorem loopG_congr {α : Type} {S : α → AS} {μ : α → Nat} {Good : α → Prop} {ns : Nm} {c k : Nat} {a : α} {Q : AExit → AS → Prop} {e e' : AExit} {u u' : AS} (he : e = e') (h : idm u = u') : loopG S μ Good ns c k a Q e u = loopG S μ Good ns c k a Q e' u' := by rw [← h, idm_eq, he]
section
variable {α : Type} {S : α → AS} {μ : α → Nat} {Good : α → Prop} {ns : Nm} {c k : Nat} {a : α} {Q : AExit → AS → Prop} {u : AS}
@[simp] theorem loopG_exit {id : Nat} : loopG S μ Good ns c k a Q (.exit id) u = Q (.exit id) { u with ns := ns, c := c + 1 } := nr rfl
@[simp] theorem loopG_goto {id : Nat} : loopG S μ Good ns c k a Q (.goto id) u = Q (.goto id) { u with ns := ns, c := c + 1 } := nr rfl
@[simp] theorem loopG_ret : loopG S μ Good ns c k a Q .ret u = Q .ret { u with ns := ns, c := c + 1 } := nr rfl
@[simp] theorem loopG_panic {v : AV} : loopG S μ Good ns c k a Q (.panic v) u = Q (.panic v) { u with ns := ns, c := c + 1 } := nr rfl
theorem loopG_normal {tm : List AV} {st : Store} {ns' : Nm} {c' : Nat} {dfs : List ADf} {F : Fre} (b : α) (hg : Good b) (hm : μ b < μ a) (ht : AVsle tm (S b).tmps) (hs : StWeak ((ns.sub c).sub k) (S a).st st (S b).st) (hd : dfs = (S b).dfs) (hf : F = (S b).fr) :
    loopG S μ Good ns c k a Q .normal ⟨tm, st, ns', c', dfs, F⟩ := ⟨b, hg, hm, ht, hs, hd, hf⟩
end
/-- Words, set. -/
def setL : List AV → List (Nat × AV) → List AV
  | l, [] => l
  | l, (k, v) :: r => setL (l.set k v) r
@[simp] theorem setL_nil {l : List AV} : setL l [] = l := rfl
@[simp] theorem setL_cons {l : List AV} {k : Nat} {v : AV} {r : List (Nat × AV)} : setL l ((k, v) :: r) = setL (l.set k v) r := rfl
/-- A loop within an iterator: what is kept for others may vary. -/
theorem wpc_loopF {α : Type} {cd : Code} {Q : AExit → AS → Prop} (U : α → List (Nat × AV)) (T : α → Store) (G : α → Fre) (μ : α → Nat) (Good : α → Prop) (a0 : α) {tm : List AV} {st : Store} {ns : Nm} {c : Nat} {dfs : List ADf} {F : Fre}
    (hG : ∀ a, Good a → (G a).Le F) (hg : Good a0) (ht : AVsle tm (setL tm (U a0))) (hs : StWk st (T a0)) (hF : F = G a0)
    (h : ∀ a k, Good a → wpc P pl cd (loopG (fun a => ⟨setL tm (U a), T a, ns, c, dfs, G a⟩) μ Good ns c k a Q) ⟨setL tm (U a), T a, (ns.sub c).sub k, 0, dfs, G a⟩) : wpc P pl (.loop cd) Q ⟨tm, st, ns, c, dfs, F⟩ :=
  ⟨α, fun a => ⟨setL tm (U a), T a, ns, c, dfs, G a⟩, μ, Good, a0, fun a ha => ⟨rfl, rfl, hG a ha⟩, hg, ht, hs, rfl, hF, fun a k ha _ => h a k ha⟩
/-- .. where the names of a round are told to be new. -/
theorem wpc_loopN {α : Type} {cd : Code} {Q : AExit → AS → Prop} (U : α → List (Nat × AV)) (T : α → Store) (μ : α → Nat) (Good : α → Prop) (a0 : α) {tm : List AV} {st : Store} {ns : Nm} {c : Nat} {dfs : List ADf} {F : Fre}
    (hg : Good a0) (ht : AVsle tm (setL tm (U a0))) (hs : StWk st (T a0))
    (h : ∀ a k, Good a → (∀ n, n.under ((ns.sub c).sub k) = true → T a n = none) → wpc P pl cd (loopG (fun a => ⟨setL tm (U a), T a, ns, c, dfs, F⟩) μ Good ns c k a Q) ⟨setL tm (U a), T a, (ns.sub c).sub k, 0, dfs, F⟩) : wpc P pl (.loop cd) Q ⟨tm, st, ns, c, dfs, F⟩ :=
  ⟨α, fun a => ⟨setL tm (U a), T a, ns, c, dfs, F⟩, μ, Good, a0, fun a ha => ⟨rfl, rfl, .refl _⟩, hg, ht, hs, rfl, rfl, fun a k ha hn => h a k ha hn⟩
/-- A loop: S a is the state in which a round begins. U: the words that a round turns. -/
theorem wpc_loop {α : Type} {cd : Code} {Q : AExit → AS → Prop} (U : α → List (Nat × AV)) (T : α → Store) (μ : α → Nat) (Good : α → Prop) (a0 : α) {tm : List AV} {st : Store} {ns : Nm} {c : Nat} {dfs : List ADf} {F : Fre}
    (hg : Good a0) (ht : AVsle tm (setL tm (U a0))) (hs : StWk st (T a0))
    (h : ∀ a k, Good a → wpc P pl cd (loopG (fun a => ⟨setL tm (U a), T a, ns, c, dfs, F⟩) μ Good ns c k a Q) ⟨setL tm (U a), T a, (ns.sub c).sub k, 0, dfs, F⟩) : wpc P pl (.loop cd) Q ⟨tm, st, ns, c, dfs, F⟩ :=
  wpc_loopF U T (fun _ => F) μ Good a0 (fun _ _ => .refl _) hg ht hs rfl h
/-- .. that leaves the store as it is. -/
theorem wpc_loop0 {α : Type} {cd : Code} {Q : AExit → AS → Prop} (U : α → List (Nat × AV)) (μ : α → Nat) (Good : α → Prop) (a0 : α) {tm : List AV} {st : Store} {ns : Nm} {c : Nat} {dfs : List ADf} {F : Fre}
    (hg : Good a0) (ht : AVsle tm (setL tm (U a0)))
    (h : ∀ a k, Good a → wpc P pl cd (loopG (fun a => ⟨setL tm (U a), st, ns, c, dfs, F⟩) μ Good ns c k a Q) ⟨setL tm (U a), st, (ns.sub c).sub k, 0, dfs, F⟩) : wpc P pl (.loop cd) Q ⟨tm, st, ns, c, dfs, F⟩ :=
  wpc_loop U (fun _ => st) μ Good a0 hg ht (.refl _) h

theorem AVsle.refl' (l : List AV) : AVsle l l := ⟨rfl, fun i v v' h h' => by rw [h] at h'; injection h' with h'; subst h'; exact .refl _⟩
theorem StWk.weak {ns : Nm} {σ u v : Store} (h : StWk u v) : StWeak ns σ u v := fun n => .inr fun o ho => h n o ho
/-! Loops of few rounds, one behind the other. -/
abbrev unrollS (ns : Nm) (c : Nat) (dfs : List ADf) (F : Fre) (p : Nat × List AV × Store) : AS := ⟨p.2.1, p.2.2, ns, c, dfs, F⟩
/-- At most n rounds follow. -/
def unrollV (P : Program) (pl : List (Nat × Plan)) (cd : Code) (Q : AExit → AS → Prop) (ns : Nm) (c : Nat) (dfs : List ADf) (F : Fre) : Nat → Nat × List AV × Store → Prop
  | 0, _ => False
  | n + 1, p => if p.1 = n + 1 then ∀ k, wpc P pl cd (loopG (unrollS ns c dfs F) (fun p => p.1) (unrollV P pl cd Q ns c dfs F n) ns c k p Q) ⟨p.2.1, p.2.2, (ns.sub c).sub k, 0, dfs, F⟩ else unrollV P pl cd Q ns c dfs F n p
theorem unrollV_low {cd : Code} {Q : AExit → AS → Prop} {ns : Nm} {c : Nat} {dfs : List ADf} {F : Fre} {p : Nat × List AV × Store} : ∀ n, p.1 ≤ n → unrollV P pl cd Q ns c dfs F n p = unrollV P pl cd Q ns c dfs F p.1 p := by
  intro n
  induction n with
  | zero => intro h; rw [Nat.le_zero.1 h]
  | succ n ih =>
    intro h
    by_cases e : p.1 = n + 1
    · rw [e]
    · rw [← ih (by omega)]; simp only [unrollV]; rw [if_neg e]
/-- A round's end. -/
def unrollG (P : Program) (pl : List (Nat × Plan)) (cd : Code) (Q : AExit → AS → Prop) (ns : Nm) (c : Nat) (dfs : List ADf) (F : Fre) (n k : Nat) (tm : List AV) (st : Store) : AExit → AS → Prop :=
  loopG (unrollS ns c dfs F) (fun p => p.1) (unrollV P pl cd Q ns c dfs F n) ns c k (n + 1, tm, st) Q
theorem wpc_unroll (n : Nat) {cd : Code} {Q : AExit → AS → Prop} {tm : List AV} {st : Store} {ns : Nm} {c : Nat} {dfs : List ADf} {F : Fre} (h : ∀ k, wpc P pl cd (unrollG P pl cd Q ns c dfs F n k tm st) ⟨tm, st, (ns.sub c).sub k, 0, dfs, F⟩) : wpc P pl (.loop cd) Q ⟨tm, st, ns, c, dfs, F⟩ := by
  refine ⟨Nat × List AV × Store, unrollS ns c dfs F, fun p => p.1, fun p => unrollV P pl cd Q ns c dfs F p.1 p, (n + 1, tm, st), fun _ _ => ⟨rfl, rfl, .refl _⟩, ?_, AVsle.refl' _, .refl _, rfl, rfl, ?_⟩
  · simp only [unrollV, if_pos]; exact h
  rintro ⟨m, tm', st'⟩ k hm _
  cases m with
  | zero => exact hm.elim
  | succ m =>
    simp only [unrollV, if_pos] at hm
    have e : loopG (unrollS ns c dfs F) (fun p => p.1) (unrollV P pl cd Q ns c dfs F m) ns c k (m + 1, tm', st') Q = loopG (unrollS ns c dfs F) (fun p => p.1) (fun p => unrollV P pl cd Q ns c dfs F p.1 p) ns c k (m + 1, tm', st') Q := by
      funext e u
      cases e with
      | normal =>
        refine propext ⟨fun ⟨b, h1, h2, h3⟩ => ⟨b, ?_, h2, h3⟩, fun ⟨b, h1, h2, h3⟩ => ⟨b, ?_, h2, h3⟩⟩
        · have := unrollV_low (P := P) (pl := pl) (cd := cd) (Q := Q) (ns := ns) (c := c) (dfs := dfs) (F := F) (p := b) m (Nat.le_of_lt_succ h2)
          exact this.mp h1
        · have := unrollV_low (P := P) (pl := pl) (cd := cd) (Q := Q) (ns := ns) (c := c) (dfs := dfs) (F := F) (p := b) m (Nat.le_of_lt_succ h2)
          exact this.mpr h1
      | _ => rfl
    rw [← e]
    exact hm k
@[congr] theorem unrollG_congr {cd : Code} {Q : AExit → AS → Prop} {ns : Nm} {c : Nat} {dfs : List ADf} {F : Fre} {n k : Nat} {tm : List AV} {st : Store} {e e' : AExit} {u u' : AS} (he : e = e') (h : idm u = u') : unrollG P pl cd Q ns c dfs F n k tm st e u = unrollG P pl cd Q ns c dfs F n k tm st e' u' := by rw [← h, idm_eq, he]
section
variable {cd : Code} {Q : AExit → AS → Prop} {ns : Nm} {c : Nat} {dfs : List ADf} {F : Fre} {n k : Nat} {tm : List AV} {st : Store} {u : AS}
@[simp] theorem unrollG_exit {id : Nat} : unrollG P pl cd Q ns c dfs F n k tm st (.exit id) u = Q (.exit id) { u with ns := ns, c := c + 1 } := nr rfl
@[simp] theorem unrollG_goto {id : Nat} : unrollG P pl cd Q ns c dfs F n k tm st (.goto id) u = Q (.goto id) { u with ns := ns, c := c + 1 } := nr rfl
@[simp] theorem unrollG_ret : unrollG P pl cd Q ns c dfs F n k tm st .ret u = Q .ret { u with ns := ns, c := c + 1 } := nr rfl
@[simp] theorem unrollG_panic {v : AV} : unrollG P pl cd Q ns c dfs F n k tm st (.panic v) u = Q (.panic v) { u with ns := ns, c := c + 1 } := nr rfl
/-- The next round. -/
theorem unroll_next {tm' : List AV} {st' : Store} {ns' : Nm} {c' : Nat} (h : ∀ k, wpc P pl cd (unrollG P pl cd Q ns c dfs F n k tm' st') ⟨tm', st', (ns.sub c).sub k, 0, dfs, F⟩) :
    unrollG P pl cd Q ns c dfs F (n + 1) k tm st .normal ⟨tm', st', ns', c', dfs, F⟩ :=
  ⟨(n + 1, tm', st'), by simp only [unrollV, if_pos]; exact h, Nat.lt_succ_self _, AVsle.refl' _, StWk.weak (.refl _), rfl, rfl⟩
/-- .. of which less is told. -/
theorem unroll_next_le {tm' tm2 : List AV} {st' st2 : Store} {ns' : Nm} {c' : Nat} (ht : AVsle tm' tm2) (hs : StWeak ((ns.sub c).sub k) st st' st2) (h : ∀ k, wpc P pl cd (unrollG P pl cd Q ns c dfs F n k tm2 st2) ⟨tm2, st2, (ns.sub c).sub k, 0, dfs, F⟩) :
    unrollG P pl cd Q ns c dfs F (n + 1) k tm st .normal ⟨tm', st', ns', c', dfs, F⟩ :=
  ⟨(n + 1, tm2, st2), by simp only [unrollV, if_pos]; exact h, Nat.lt_succ_self _, ht, hs, rfl, rfl⟩
end

/-! Stores of a function's own variables. -/
def upL (σ : Store) : List (Nm × AObj) → Store
  | [] => σ
  | (n, o) :: L => (upL σ L).up n o
@[simp] theorem upL_nil {σ : Store} : upL σ [] = σ := rfl
@[simp] theorem upL_cons {σ : Store} {n : Nm} {o : AObj} {L : List (Nm × AObj)} : upL σ ((n, o) :: L) = (upL σ L).up n o := rfl
theorem up_other {σ : Store} {n m ns : Nm} {o : AObj} (h : n.under ns = true) (hm : m.under ns = false) : (σ.up n o) m = σ m := by
  rw [Store.up_get, if_neg (fun e => by subst e; rw [h] at hm; cases hm)]
theorem del_other {σ : Store} {n m ns : Nm} (h : n.under ns = true) (hm : m.under ns = false) : (σ.del n) m = σ m := by
  unfold Store.del; rw [if_neg (fun e => by subst e; rw [h] at hm; cases hm)]
/-- What is told of a store: the base, and some of the function's own variables. -/
theorem StWk.own {ns : Nm} {σ u : Store} (hσ : ∀ n, n.under ns = true → σ n = none) (L : List (Nm × AObj)) (h1 : ∀ p ∈ L, ∃ o', u p.1 = some o' ∧ VarWk o' p.2) (h2 : ∀ x, x.under ns = false → u x = σ x) : StWk u (upL σ L) := by
  induction L with
  | nil =>
    intro x o hx
    cases hu : x.under ns with
    | true => rw [upL_nil, hσ x hu] at hx; cases hx
    | false => exact ⟨o, by rw [h2 x hu]; exact hx, .inl rfl⟩
  | cons p L ih =>
    obtain ⟨n, o⟩ := p
    intro x o' hx
    rw [upL_cons, Store.up_get] at hx
    split at hx
    · rename_i e; subst e; injection hx with hx; subst hx
      exact h1 (x, o) (by simp)
    · exact ih (fun p hp => h1 p (by simp [hp])) x o' hx

/-! Ranges over functions. -/
@[congr] theorem roundG_congr {J : Nat → Store → Fre → Prop} {i : Nat} {σ : Store} {s : AS} {Q : AExit → AS → Prop} {e e' : AExit} {u u' : AS} (he : e = e') (h : idm u = u') : roundG J i σ s Q e u = roundG J i σ s Q e' u' := by rw [← h, idm_eq, he]
@[congr] theorem assignG_congr {K : AS → Prop} {e e' : AExit} {u u' : AS} (he : e = e') (h : idm u = u') : assignG K e u = assignG K e' u' := by rw [← h, idm_eq, he]
@[simp] theorem assignG_normal {K : AS → Prop} {u : AS} : assignG K .normal u = K u := nr rfl
section
variable {J : Nat → Store → Fre → Prop} {i : Nat} {σ : Store} {s : AS} {Q : AExit → AS → Prop} {u : AS}
@[simp] theorem roundG_exit {id : Nat} : roundG J i σ s Q (.exit id) u = Q (.exit id) { s with st := u.st, c := s.c + 1, fr := u.fr } := nr rfl
@[simp] theorem roundG_goto {l : Nat} : roundG J i σ s Q (.goto l) u = Q (.goto l) { s with st := u.st, c := s.c + 1, fr := u.fr } := nr rfl
@[simp] theorem roundG_ret : roundG J i σ s Q .ret u = Q .ret { s with st := u.st, c := s.c + 1, fr := u.fr } := nr rfl
theorem roundG_normal {σ' : Store} (h : StWeak ((s.ns.sub s.c).sub (i + 1)) σ u.st σ') (hJ : J (i + 1) σ' u.fr) : roundG J i σ s Q .normal u := ⟨σ', h, hJ⟩
end
/-- The states between the rounds of a range. -/
def rngJ {α : Type} (T : α → Store) (idx : α → Nat) (Good : α → Prop) (F : Fre) (i : Nat) (σ : Store) (F' : Fre) : Prop := ∃ b, idx b = i ∧ Good b ∧ σ = T b ∧ F' = F
/-- A range over an iterator: T a: the store behind idx a rounds. -/
theorem wpc_range {α : Type} {g : Operand} {ps : Array Tmp} {asg body : Code} {Q : AExit → AS → Prop} {tm : List AV} {st : Store} {ns : Nm} {c : Nat} {dfs : List ADf} {F : Fre} {gf : FuncId} {caps : List AV} {ys : List (List AV)} (hit : AIter P gf caps ys)
    (T : α → Store) (idx : α → Nat) (Good : α → Prop) (a0 : α) (hg : AS.ev ⟨tm, st, ns, c, dfs, F⟩ g = .fn (.func gf) [] caps) (hi0 : idx a0 = 0) (hg0 : Good a0) (hs : StWk st (T a0)) (hps : ∀ y ∈ ys, y.length = ps.size)
    (hround : ∀ a y, Good a → ys[idx a]? = some y → (∀ n, n.under ((ns.sub c).sub (idx a + 1)) = true → T a n = none) → wpc P pl asg (assignG (wpc P pl body (roundG (rngJ T idx Good F) (idx a) (T a) ⟨tm, st, ns, c, dfs, F⟩ Q))) ⟨bindT ps.toList y tm, T a, (ns.sub c).sub (idx a + 1), 0, [], F⟩)
    (hdone : ∀ a, Good a → idx a = ys.length → Q .normal ⟨tm, T a, ns, c + 1, dfs, F⟩) : wpc P pl (.rangeFunc g ps asg body) Q ⟨tm, st, ns, c, dfs, F⟩ := by
  refine ⟨gf, caps, ys, rngJ T idx Good F, T a0, hg, hit, hs, ⟨a0, hi0, hg0, rfl, rfl⟩, hps, ?_, ?_⟩
  · rintro i σ F' y ⟨b, rfl, hb, rfl, rfl⟩ hy _ hn
    exact hround b y hb hy hn
  · rintro σ F' ⟨b, hb1, hb, rfl, rfl⟩
    exact hdone b hb hb1
/-- A round has ended. -/
theorem round_normal {α : Type} {T : α → Store} {idx : α → Nat} {Good : α → Prop} {i : Nat} {σ : Store} {s : AS} {Q : AExit → AS → Prop} {tm : List AV} {st : Store} {ns' : Nm} {c' : Nat} {dfs : List ADf} {F : Fre} (b : α) (hi : idx b = i + 1) (hg : Good b)
    (h : StWeak ((s.ns.sub s.c).sub (i + 1)) σ st (T b)) : roundG (rngJ T idx Good F) i σ s Q .normal ⟨tm, st, ns', c', dfs, F⟩ := ⟨T b, h, b, hi, hg, rfl, rfl⟩
/-- Within an iterator: yield is called. -/
theorem YieldOk.use {l : Nat} {ys : List (List AV)} {ns : Nm} {J : Nat → Store → Fre → Prop} {X : Store → Fre → Prop} (hy : YieldOk P l ys ns J X) {i : Nat} {σ : Store} {F : Fre} {y args : List AV} (hJ : J i σ F) (hi : ys[i]? = some y) (ha : AVsle args y)
    {dst : Option Tmp} {K : AS → Prop} {tm : List AV} {ns' : Nm} {c : Nat} {dfs : List ADf} (h1 : ∀ σ' F', F'.Le F → J (i + 1) σ' F' → K (AS.put ⟨tm, σ', ns', c, dfs, F'⟩ dst (.bool true))) (h2 : ∀ σ' F', F'.Le F → X σ' F' → K (AS.put ⟨tm, σ', ns', c, dfs, F'⟩ dst (.bool false))) :
    YieldK P l args dst K ⟨tm, σ, ns', c, dfs, F⟩ := by
  have h := hy.2 i σ F y σ hJ hi (Store.le_refl σ)
  intro ρ M w xs g1 g2 g3
  have := (h.mono (R' := fun b τ' F' => K ((AS.setYd ⟨tm, σ, ns', c, dfs, F⟩ τ' F').put dst (.bool b))) fun b τ' F' hle hb => ?_) ρ M w xs g1 g2 (ha.vrs g3)
  · exact this
  · obtain ⟨σ', rfl, hb⟩ := hb
    have e : frameS σ σ σ' = σ' := by
      funext n; unfold frameS
      split
      · rename_i hc; have := hc.1; have := hc.2; simp_all
      · rfl
    rw [e]
    cases b with
    | true => exact h1 σ' F' hle (by simpa using hb)
    | false => exact h2 σ' F' hle (by simpa using hb)
/-- .. its end. -/
def endI (v : Option AV) (τ : Store) (d : List ADf) (F : Fre) (σ : Store) (ns : Nm) (R : Store → Fre → Prop) : Prop := d = [] ∧ (∃ u, v = some u) ∧ ∃ σ', StWeak ns σ τ σ' ∧ R σ' F
@[congr] theorem bodyI_congr {rs : List ResultVar} {σ : Store} {ns : Nm} {R : Store → Fre → Prop} {e e' : AExit} {s s' : AS} (he : e = e') (h : idm s = s') : bodyI P rs σ ns R e s = bodyI P rs σ ns R e' s' := by rw [← h, idm_eq, he]
@[congr] theorem endI_congr {v v' : Option AV} {τ τ' : Store} {d d' : List ADf} {F F' : Fre} {σ : Store} {ns : Nm} {R : Store → Fre → Prop} (h1 : idm v = v') (h2 : τ = τ') (h3 : d = d') (h4 : F = F') : endI v τ d F σ ns R = endI v' τ' d' F' σ ns R := by rw [← h1, idm_eq, h2, h3, h4]
@[simp] theorem bodyI_ret_eq {rs : List ResultVar} {σ : Store} {ns : Nm} {R : Store → Fre → Prop} {s : AS} : bodyI P rs σ ns R .ret s = endI (aresults P rs s) s.st s.dfs s.fr σ ns R := nr rfl
@[simp] theorem bodyI_normal_eq {rs : List ResultVar} {σ : Store} {ns : Nm} {R : Store → Fre → Prop} {s : AS} : bodyI P rs σ ns R .normal s = endI (aresults P rs s) s.st s.dfs s.fr σ ns R := nr rfl
theorem endI_intro {v : AV} {τ σ : Store} {F : Fre} {ns : Nm} {R : Store → Fre → Prop} {σ' : Store} (hw : StWeak ns σ τ σ') (hr : R σ' F) : endI (some v) τ [] F σ ns R := ⟨rfl, ⟨v, rfl⟩, σ', hw, hr⟩
/-- The store is the protocol's. -/
theorem endI_same {v : AV} {σ τ : Store} {F : Fre} {ns : Nm} {R : Store → Fre → Prop} (hr : R τ F) : endI (some v) τ [] F σ ns R := ⟨rfl, ⟨v, rfl⟩, τ, fun n => .inr fun o h => ⟨o, h, .inl rfl⟩, hr⟩
theorem AVsle.nil : AVsle [] [] := ⟨rfl, fun i v v' h => by simp at h⟩
theorem AVsle.cons {v v' : AV} {l l' : List AV} (h : AVle v v') (hl : AVsle l l') : AVsle (v :: l) (v' :: l') :=
  ⟨by simp [hl.1], fun i u u' hu hu' => by
    cases i with
    | zero => simp at hu hu'; subst hu; subst hu'; exact h
    | succ i => simp at hu hu'; exact hl.2 i u u' hu hu'⟩
theorem AVsle.refl (l : List AV) : AVsle l l := ⟨rfl, fun i v v' h h' => by rw [h] at h'; injection h' with h'; subst h'; exact .refl _⟩
theorem AVle.unk {sz : Nat} {es : List (List AV)} {c : Cap} : AVle (.sl sz es c) (.sl sz es .unk) := fun ρ M x h => by
  cases h with
  | slnil h => exact .slnil (.inl rfl)
  | slz a h => exact .slz a (.inl rfl)
  | sl h1 h2 h3 h4 h5 h6 => exact .sl h1 h2 ⟨fun e => (by cases e), by simp⟩ (fun n e => by cases e) h5 h6
theorem AVle.unk0 {sz sz' : Nat} {c : Cap} : AVle (.sl sz [] c) (.sl sz' [] .unk) := fun ρ M x h => by
  cases h with
  | slnil h => exact .slnil (.inl rfl)
  | slz a h => exact .slz a (.inl rfl)
  | sl h1 h2 h3 h4 h5 h6 => exact .sl (by simp) h2 ⟨fun e => (by cases e), by simp⟩ (fun n e => by cases e) (by simp) (by simp)
theorem AVle.agg {l l' : List AV} (h : AVsle l l') : AVle (.agg l) (.agg l') := fun ρ M x hx => by
  obtain ⟨xs, rfl, hv⟩ := VR.agg_iff.1 hx
  exact VR.agg_iff.2 ⟨xs, rfl, h.vrs hv⟩
theorem AVle.tup {l l' : List AV} (h : AVsle l l') : AVle (.tup l) (.tup l') := fun ρ M x hx => by
  obtain ⟨xs, rfl, hv⟩ := VR.tup_iff.1 hx
  exact VR.tup_iff.2 ⟨xs, rfl, h.vrs hv⟩
theorem AVle.trans {a b c : AV} (h : AVle a b) (h' : AVle b c) : AVle a c := fun ρ M x hx => h' ρ M x (h ρ M x hx)
theorem bodyA_ret {rs : List ResultVar} {σ : Store} {ns : Nm} {R : AEnd → Store → Prop} {s : AS} {v : AV} {σ' : Store} (hd : s.dfs = []) (hv : aresults P rs s = some v) (hw : StWeak ns σ s.st σ') (hr : R (.ret v) σ') : bodyA P rs σ ns R .ret s :=
  ⟨hd, v, hv, v, σ', .refl v, hw, hr⟩
theorem bodyA_normal {rs : List ResultVar} {σ : Store} {ns : Nm} {R : AEnd → Store → Prop} {s : AS} {v : AV} {σ' : Store} (hd : s.dfs = []) (hv : aresults P rs s = some v) (hw : StWeak ns σ s.st σ') (hr : R (.ret v) σ') : bodyA P rs σ ns R .normal s :=
  ⟨hd, v, hv, v, σ', .refl v, hw, hr⟩
/-- The end of a function that leaves the store as it is. -/
theorem bodyA_pure {rs : List ResultVar} {σ : Store} {ns : Nm} {s : AS} {v v' : AV} (hd : s.dfs = []) (hv : aresults P rs s = some v) (hle : AVle v v') (hw : restoreS ns [] σ s.st = σ) :
    bodyA P rs σ ns (fun e σ' => e = .ret v' ∧ σ' = σ) .ret s := ⟨hd, v, hv, v', σ, hle, .same hw, rfl, rfl⟩

/-! ### Drawn regions -/
def onlyL (P : Program) (l0 l : List Oper) (Q : AExit → AS → Prop) (i j : Nat) (K : AS → Prop) (s : AS) : Prop :=
  match l[j]? with
  | none => K s
  | some o => match awanted l0.toArray s o with
    | some true => astep P ((s.ns.sub s.c).sub i) o K Q s
    | some false => K (s.put o.dst (.tup []))
    | none => False
@[congr] theorem onlyL_congr {l0 l : List Oper} {Q : AExit → AS → Prop} {i j : Nat} {K : AS → Prop} {s s' : AS} (h : idm s = s') : onlyL P l0 l Q i j K s = onlyL P l0 l Q i j K s' := by rw [← h, idm_eq]
@[congr] theorem aPlan_congr {ops : Array Oper} {Q : AExit → AS → Prop} {pl : Plan} {s s' : AS} (h : idm s = s') : aPlan P ops Q pl s = aPlan P ops Q pl s' := by rw [← h, idm_eq]
@[simp] theorem aPlan_nil {ops : Array Oper} {Q : AExit → AS → Prop} {s : AS} : aPlan P ops Q .done s = Q .normal s.bump := nr rfl
@[simp] theorem aPlan_only {l : List Oper} {Q : AExit → AS → Prop} {i : Nat} {r : Plan} {s : AS} : aPlan P l.toArray Q (.only i r) s = onlyL P l l Q i i (aPlan P l.toArray Q r) s := by
  simp only [aPlan, aOp, onlyL, List.getElem?_toArray]; rfl
@[simp] theorem onlyL_succ {l0 l : List Oper} {o : Oper} {Q : AExit → AS → Prop} {i j : Nat} {K : AS → Prop} {s : AS} : onlyL P l0 (o :: l) Q i (j + 1) K s = onlyL P l0 l Q i j K s := nr rfl
@[simp] theorem onlyL_zero {l0 l : List Oper} {Q : AExit → AS → Prop} {i : Nat} {K : AS → Prop} {s : AS} {dst : Option Tmp} {op : Op} {ty : TypeId} {pos : String} {after : Array Edge} :
    onlyL P l0 ({ dst := dst, op := op, type := ty, pos := pos, after := after, guard := none } :: l) Q i 0 K s = aeffK (aeff P ((s.ns.sub s.c).sub i) s.ev s.st op) ((s.ns.sub s.c).sub i) P dst K Q s := nr rfl
theorem wanted_cases {l0 : List Oper} {s : AS} {g : Nat} {want : Bool} {dst : Option Tmp} {op : Op} {ty : TypeId} {pos : String} {after : Array Edge} {X Y : AS → Prop} :
    (match awanted l0.toArray s { dst := dst, op := op, type := ty, pos := pos, after := after, guard := some (g, want) } with
      | some true => X s
      | some false => Y s
      | none => False) = guardK (gvalL l0 g s) want X Y s := by
  simp only [awanted, gvalL, gval, List.getElem?_toArray]
  cases (l0[g]?).bind (·.dst) with
  | none => rfl
  | some d =>
    simp only
    cases s.tmps[d]? with
    | none => rfl
    | some v =>
      cases v <;> try rfl
      · rename_i b
        cases b <;> cases want <;> simp [guardK]
      · rename_i vs
        cases vs <;> rfl
@[simp] theorem onlyL_guard {l0 l : List Oper} {Q : AExit → AS → Prop} {i : Nat} {K : AS → Prop} {s : AS} {dst : Option Tmp} {op : Op} {ty : TypeId} {pos : String} {after : Array Edge} {g : Nat} {want : Bool} :
    onlyL P l0 ({ dst := dst, op := op, type := ty, pos := pos, after := after, guard := some (g, want) } :: l) Q i 0 K s =
      guardK (gvalL l0 g s) want (fun s => aeffK (aeff P ((s.ns.sub s.c).sub i) s.ev s.st op) ((s.ns.sub s.c).sub i) P dst K Q s) (fun s => K (s.put dst (.tup []))) s := by
  rw [← wanted_cases (dst := dst) (op := op) (ty := ty) (pos := pos) (after := after)]; rfl

@[simp] theorem aPlan_fork {l : List Oper} {Q : AExit → AS → Prop} {i j : Nat} {p q : Plan} {s : AS} : aPlan P l.toArray Q (.fork i p j q) s = (onlyL P l l Q i i (aPlan P l.toArray Q p) s ∧ onlyL P l l Q j j (aPlan P l.toArray Q q) s) := by
  simp only [aPlan, aOp, onlyL, List.getElem?_toArray]; rfl

@[simp] theorem aPlan_fork3 {l : List Oper} {Q : AExit → AS → Prop} {i j k : Nat} {p q r : Plan} {s : AS} : aPlan P l.toArray Q (.fork3 i p j q k r) s = (onlyL P l l Q i i (aPlan P l.toArray Q p) s ∧ onlyL P l l Q j j (aPlan P l.toArray Q q) s ∧ onlyL P l l Q k k (aPlan P l.toArray Q r) s) := by
  simp only [aPlan, aOp, onlyL, List.getElem?_toArray]; rfl
def takeL (P : Program) (l0 l : List Oper) (i j : Nat) (fr fs : List Nat) (K : AS → Prop) (s : AS) : Prop :=
  match l[j]? with
  | none => False
  | some o => match awanted l0.toArray s o with
    | some true => takeO P o i fr fs K s
    | some false => K (s.put o.dst (.tup []))
    | none => False
@[congr] theorem takeL_congr {l0 l : List Oper} {i j : Nat} {fr fs : List Nat} {K : AS → Prop} {s s' : AS} (h : idm s = s') : takeL P l0 l i j fr fs K s = takeL P l0 l i j fr fs K s' := by rw [← h, idm_eq]
@[simp] theorem aPlan_take {l : List Oper} {Q : AExit → AS → Prop} {i R : Nat} {fr fs : List Nat} {r : Plan} {s : AS} : aPlan P l.toArray Q (.take i fr fs R r) s = takeL P l l i i fr fs (aPlan P l.toArray Q r) s := by
  simp only [aPlan, takeL, List.getElem?_toArray]; rfl
@[simp] theorem takeL_succ {l0 l : List Oper} {o : Oper} {i j : Nat} {fr fs : List Nat} {K : AS → Prop} {s : AS} : takeL P l0 (o :: l) i (j + 1) fr fs K s = takeL P l0 l i j fr fs K s := nr rfl
@[simp] theorem takeL_zero {l0 l : List Oper} {i : Nat} {fr fs : List Nat} {K : AS → Prop} {s : AS} {dst : Option Tmp} {op : Op} {ty : TypeId} {pos : String} {after : Array Edge} :
    takeL P l0 ({ dst := dst, op := op, type := ty, pos := pos, after := after, guard := none } :: l) i 0 fr fs K s = (frC fr fs op s ∧ (memFree op || loadOp op || allocOp op) = true ∧ takeE (aeff P ((s.ns.sub s.c).sub i) s.ev s.st op) P dst K s) := nr rfl
@[simp] theorem takeL_guard {l0 l : List Oper} {i : Nat} {fr fs : List Nat} {K : AS → Prop} {s : AS} {dst : Option Tmp} {op : Op} {ty : TypeId} {pos : String} {after : Array Edge} {g : Nat} {want : Bool} :
    takeL P l0 ({ dst := dst, op := op, type := ty, pos := pos, after := after, guard := some (g, want) } :: l) i 0 fr fs K s =
      guardK (gvalL l0 g s) want (fun s => frC fr fs op s ∧ (memFree op || loadOp op || allocOp op) = true ∧ takeE (aeff P ((s.ns.sub s.c).sub i) s.ev s.st op) P dst K s) (fun s => K (s.put dst (.tup []))) s := by
  rw [← wanted_cases (dst := dst) (op := op) (ty := ty) (pos := pos) (after := after)]; rfl
/-- A call that may be made first. -/
def callT (P : Program) (f : FuncId) (args : List AV) (dst : Option Tmp) (K : AS → Prop) (s : AS) : Prop := ∃ v, Pure P f args v ∧ K (s.put dst v)
@[congr] theorem callT_congr {f f' : FuncId} {args args' : List AV} {dst : Option Tmp} {K : AS → Prop} {s s' : AS} (hf : f = f') (ha : args = args') (h : idm s = s') : callT P f args dst K s = callT P f' args' dst K s' := by rw [← h, idm_eq, hf, ha]
@[simp] theorem takeE_val {v : AV} {σ : Store} {dst : Option Tmp} {K : AS → Prop} {s : AS} : takeE (.val v σ) P dst K s = K ((s.setSt σ).put dst v) := nr rfl
@[simp] theorem takeE_call {f : FuncId} {args : List AV} {dst : Option Tmp} {K : AS → Prop} {s : AS} : takeE (.call f args) P dst K s = callT P f args dst K s := nr rfl
@[simp] theorem takeE_bad {dst : Option Tmp} {K : AS → Prop} {s : AS} : takeE .bad P dst K s = False := nr rfl
@[simp] theorem takeE_skip {σ : Store} {dst : Option Tmp} {K : AS → Prop} {s : AS} : takeE (.skip σ) P dst K s = False := nr rfl
attribute [simp] memFree loadOp allocOp frC frA frN frP
attribute [simp] rows_val rows_row aappendR

/-! Less is known: by instances. -/
class AVLe (v v' : AV) : Prop where
  le : AVle v v'
class AVsLe (l l' : List AV) : Prop where
  le : AVsle l l'
instance (priority := 2000) AVLe.refl {v : AV} : AVLe v v := ⟨.refl v⟩
instance AVLe.any {v : AV} : AVLe v .any := ⟨.any v⟩
instance AVLe.unk {sz : Nat} {es : List (List AV)} {c : Cap} : AVLe (.sl sz es c) (.sl sz es .unk) := ⟨.unk⟩
instance AVLe.unk0 {sz sz' : Nat} {c : Cap} : AVLe (.sl sz [] c) (.sl sz' [] .unk) := ⟨.unk0⟩
instance AVLe.unk0m {α : Type} {f : α → List AV} {sz sz' : Nat} {c : Cap} : AVLe (.sl sz [] c) (.sl sz' (List.map f []) .unk) := ⟨.unk0⟩
instance AVLe.succ {k : IntKind} {i : Nat} : AVLe (.int k ((i : Int) + 1)) (.int k ((i + 1 : Nat) : Int)) := ⟨.refl _⟩
instance AVsLe.nil : AVsLe [] [] := ⟨.nil⟩
instance AVsLe.cons {v v' : AV} {l l' : List AV} [h : AVLe v v'] [hl : AVsLe l l'] : AVsLe (v :: l) (v' :: l') := ⟨.cons h.le hl.le⟩
instance AVLe.agg {l l' : List AV} [h : AVsLe l l'] : AVLe (.agg l) (.agg l') := ⟨.agg h.le⟩
instance AVLe.tup {l l' : List AV} [h : AVsLe l l'] : AVLe (.tup l) (.tup l') := ⟨.tup h.le⟩
instance AVLe.bool {b : Bool} : AVLe (.bool b) .anyb := ⟨fun ρ M x h => by cases h; exact .anyb _⟩

theorem ACalls.weaken {f : FuncId} {args args' : List AV} {σ : Store} {ns : Nm} {R : AEnd → Store → Prop} (h : ACalls P f args' σ ns R) (hl : AVsle args args') : ACalls P f args σ ns R :=
  ⟨h.1, fun ρ M w xs h1 h2 h3 => h.2 ρ M w xs h1 h2 (hl.vrs h3)⟩
theorem Pure.weaken {f : FuncId} {args args' : List AV} {v : AV} (h : Pure P f args' v) (hl : AVsle args args') : Pure P f args v := fun σ ns => (h σ ns).weaken hl
theorem Pure.use_le {f : FuncId} {args args' : List AV} {v : AV} (h : Pure P f args' v) {n : Nm} {dst : Option Tmp} {K : AS → Prop} {Q : AExit → AS → Prop} {s : AS} [hl : AVsLe args args'] (hk : K (s.put dst v)) : CallK P f args n dst K Q s :=
  (h.weaken hl.le).use hk
theorem callT_le {f : FuncId} {args args' : List AV} {v : AV} (h : Pure P f args' v) {dst : Option Tmp} {K : AS → Prop} {s : AS} [hl : AVsLe args args'] (hk : K (s.put dst v)) : callT P f args dst K s :=
  ⟨v, h.weaken hl.le, hk⟩
theorem endA_le {v v' : AV} {τ σ : Store} {ns : Nm} [h : AVLe v v'] (hw : restoreS ns [] σ τ = σ) : endA (some v) τ [] σ ns (fun e σ' => e = .ret v' ∧ σ' = σ) := ⟨rfl, v, rfl, v', σ, h.le, .same hw, rfl, rfl⟩
end
end Go.Abs
