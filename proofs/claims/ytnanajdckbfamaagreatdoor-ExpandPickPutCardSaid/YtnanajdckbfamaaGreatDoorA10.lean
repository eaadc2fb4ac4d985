/- Regions whose order is drawn: an operation that yields the same in every order may go first. -/
import Derived.Test.YtnanajdckbfamaaGreatDoorA9
set_option linter.unusedVariables false
set_option linter.unusedSimpArgs false
namespace Go.Abs
section
variable {P : Program}

/-- A function that leaves the store as it is. -/
def Pure (P : Program) (f : FuncId) (args : List AV) (v : AV) : Prop := ∀ (σ : Store) (ns : Nm), ACalls P f args σ ns fun e σ' => e = .ret v ∧ σ' = σ
/-- simp shall not look into code that has not been come to: the mark lets each rule below count as a step. -/
def idm {α : Type} (a : α) : α := a
@[simp] theorem idm_eq {α : Type} (a : α) : idm a = a := Eq.trans (Eq.refl a) (Eq.refl a)

/-- Operations whose answer rests on their operands alone. -/
def memFree : Op → Bool
  | .move _ => true
  | .assign _ => true
  | .pick _ _ _ => true
  | .fieldAddr _ _ _ => true
  | .field _ _ _ => true
  | .indexAddr _ _ _ => true
  | .index _ _ _ => true
  | .build _ _ => true
  | .makeFunc _ _ _ => true
  | .makeInterface _ _ => true
  | .extract _ _ => true
  | .nilCheck _ => true
  | .binOp _ _ _ _ _ => true
  | .unOp _ _ _ => true
  | .convert _ _ _ => true
  | .slice _ _ _ _ _ => true
  | .buildSlice _ _ _ => true
  | .call c => match c.callee with
    | .builtin .append => false
    | .builtin _ => true
    | .value _ => true
    | _ => false
  | _ => false
/-- Operations that leave the store as it is. -/
def quietOp : Op → Bool
  | .load _ _ => true
  | .call c => match c.callee with
    | .builtin .append => false
    | .builtin _ => true
    | _ => false
  | op => memFree op
def AEff.with (r : AEff) (σ : Store) : AEff := match r with
  | .val v _ => .val v σ
  | .skip _ => .skip σ
  | .call f args => .call f args
  | .yield l args => .yield l args
  | .panic v => .panic v
  | .bad => .bad

theorem aeff_memFree {op : Op} (h : memFree op = true) (n n' : Nm) (e : Operand → AV) (σ σ' : Store) : aeff P n' e σ' op = (aeff P n e σ op).with σ' := by
  have q : ∀ (v : Option AV), (match v with | some v => AEff.val v σ' | none => .bad) = AEff.with (match v with | some v => AEff.val v σ | none => .bad) σ' := fun v => by cases v <;> rfl
  cases op <;> simp only [memFree, Bool.false_eq_true] at h <;> simp only [aeff, aquiet] <;> first | rfl | exact .inl ⟨_, rfl⟩ | exact q _ | skip
  case call c =>
    cases hc : c.callee with
    | builtin b =>
      rw [hc] at h
      cases b <;> first | (dsimp only at h; cases h; done) | (dsimp only; generalize abuiltin P _ c.argTypes (List.map e c.args.toList) = z; exact q z)
    | value f => dsimp only; split <;> rfl
    | invoke r m => rw [hc] at h; dsimp only at h; cases h

theorem aeff_quiet_store {op : Op} (h : quietOp op = true) {n : Nm} {e : Operand → AV} {σ : Store} : (∃ v, aeff P n e σ op = .val v σ) ∨ aeff P n e σ op = .bad := by
  have q : ∀ (v : Option AV), (∃ u, (match v with | some v => AEff.val v σ | none => AEff.bad) = AEff.val u σ) ∨ (match v with | some v => AEff.val v σ | none => .bad) = .bad := fun v => by
    cases v with
    | none => exact .inr rfl
    | some v => exact .inl ⟨v, rfl⟩
  cases op <;> simp only [quietOp, memFree, Bool.false_eq_true] at h <;> simp only [aeff, aquiet] <;> first | rfl | exact .inl ⟨_, rfl⟩ | exact q _ | skip
  case call c =>
    cases hc : c.callee with
    | builtin b =>
      rw [hc] at h
      cases b <;> first | (dsimp only at h; cases h; done) | (dsimp only; generalize abuiltin P _ c.argTypes (List.map e c.args.toList) = z; exact q z)
    | value f => rw [hc] at h; dsimp only at h; cases h
    | invoke r m => rw [hc] at h; dsimp only at h; cases h

theorem aeff_congr {op : Op} {n : Nm} {e e' : Operand → AV} {σ : Store} (hs : ∀ cs b, op ≠ .select cs b) (h : ∀ x ∈ op.operands, e x = e' x) : aeff P n e σ op = aeff P n e' σ op := by
  have pairs : ∀ ps : Array (Nat × Operand), (∀ x ∈ ps.map (·.2), e x = e' x) → (ps.toList.map fun p => (p.1, e p.2)) = (ps.toList.map fun p => (p.1, e' p.2)) := fun ps hp =>
    List.map_congr_left fun p hm => by
      rw [hp p.2 (Array.mem_map.2 ⟨p, by simpa using hm, rfl⟩)]
  have lists : ∀ ps : Array Operand, (∀ x ∈ ps, e x = e' x) → ps.toList.map e = ps.toList.map e' := fun ps hp => List.map_congr_left fun p hm => hp p (by simpa using hm)
  cases op <;> simp only [Op.operands] at h <;> simp only [aeff, aquiet]
  case build t ps => rw [pairs ps fun x hx => h x (by simpa using hx)]
  case buildSlice t n ps => rw [pairs ps fun x hx => h x (by simpa using hx)]
  case makeFunc fn first captured => rw [lists first fun x hx => h x (by simp [hx]), lists captured fun x hx => h x (by simp [hx])]
  case call c =>
    have ha := lists c.args fun x hx => h x (by simp [Call.operands, hx])
    rw [ha]
    cases hc : c.callee with
    | value f => have hf : e f = e' f := h f (by simp [Call.operands, hc]); simp only [hf]
    | invoke r m => rfl
    | builtin b => cases b <;> rfl
  case slice t x lo hi mx => cases lo <;> cases hi <;> cases mx <;> simp_all
  case makeMap t rs => cases rs <;> simp_all
  all_goals (first | rfl | (simp_all; done))

theorem AS.ev_put {s : AS} {dst : Option Tmp} {v : AV} {x : Operand} (h : ∀ d, dst = some d → x ≠ .tmp d) : (s.put dst v).ev x = s.ev x := by
  cases dst with
  | none => rfl
  | some d =>
    cases x with
    | tmp t =>
      have hne : d ≠ t := fun e => h d rfl (e ▸ rfl)
      simp [AS.ev, AS.put, List.getElem?_set_ne hne]
    | _ => rfl
theorem AS.put_comm (s : AS) {x y : Option Tmp} (v u : AV) (h : ∀ d, x = some d → y ≠ some d) : (s.put x v).put y u = (s.put y u).put x v := by
  cases x with
  | none => rfl
  | some d =>
    cases y with
    | none => rfl
    | some e =>
      have hne : d ≠ e := fun he => h d rfl (he ▸ rfl)
      simp [AS.put, List.set_comm _ _ hne]
theorem AS.put_setSt (s : AS) (x : Option Tmp) (v : AV) (σ : Store) : (s.put x v).setSt σ = (s.setSt σ).put x v := by cases x <;> rfl

theorem awanted_put {ops : Array Oper} {o : Oper} {s : AS} {dst : Option Tmp} {v : AV} (h : ∀ d, dst = some d → d ∉ o.looksAt ops) : awanted ops (s.put dst v) o = awanted ops s o := by
  cases dst with
  | none => rfl
  | some d =>
    unfold awanted
    cases hg : o.guard with
    | none => rfl
    | some gw =>
      obtain ⟨g, want⟩ := gw
      simp only
      cases ht : (ops[g]?).bind (·.dst) with
      | none => rfl
      | some t =>
        have hne : d ≠ t := fun e => h d rfl (by subst e; simp [Oper.looksAt, hg, ht])
        simp [AS.put, List.getElem?_set_ne hne]
theorem awanted_setSt {ops : Array Oper} {o : Oper} {s : AS} {σ : Store} : awanted ops (s.setSt σ) o = awanted ops s o := rfl

theorem aeff_put {ops : Array Oper} {o : Oper} {s : AS} {n : Nm} {σ : Store} {dst : Option Tmp} {v : AV} (hs : ∀ cs b, o.op ≠ .select cs b) (h : ∀ d, dst = some d → d ∉ o.looksAt ops) :
    aeff P n (s.put dst v).ev σ o.op = aeff P n s.ev σ o.op :=
  aeff_congr hs fun x hx => AS.ev_put fun d hd hxd => h d hd (by
    subst hxd
    exact List.mem_append_left _ (List.mem_filterMap.2 ⟨.tmp d, by simpa using hx, rfl⟩))

/-- Operations that make a variable. -/
def allocOp : Op → Bool
  | .alloc _ => true
  | .box _ _ => true
  | _ => false
def loadOp : Op → Bool
  | .load _ _ => true
  | _ => false
/-- No operation of a call, and its answer rests on its operands alone. -/
def pureOp (op : Op) : Bool := memFree op && quietOp op

theorem aeff_alloc_store {op : Op} (h : allocOp op = true) {n : Nm} {e : Operand → AV} : (∃ ob, ∀ σ : Store, aeff P n e σ op = .val (.ptr n 0) (σ.up n ob)) ∨ ∀ σ : Store, aeff P n e σ op = .bad := by
  cases op <;> simp only [allocOp, Bool.false_eq_true] at h <;> simp only [aeff]
  · split
    · exact .inl ⟨_, fun σ => rfl⟩
    · exact .inr fun σ => rfl
  · split
    · exact .inl ⟨_, fun σ => rfl⟩
    · exact .inr fun σ => rfl

/-- An address that is not n's. -/
def frN (a : AV) (n : Nm) : Prop := match a with
  | .ptr m _ => m ≠ n
  | _ => True
/-- .. nor of a row that is made there, or goes on there under another name. -/
def frA (a : AV) (n : Nm) : Prop := match a with
  | .ptr m _ => m ≠ n ∧ m ≠ n.mk true ∧ (m.isRow = true → n.rows = false)
  | _ => True
theorem frA.n {a : AV} {n : Nm} (h : frA a n) : frN a n := by
  cases a <;> simp only [frA, frN] at h ⊢
  exact h.1
theorem aload_up {a : AV} {n : Nm} (h : frN a n) (σ : Store) (ob : AObj) (t : TypeId) : aload P (σ.up n ob) t a = aload P σ t a := by
  have hr : ∀ k, aread (σ.up n ob) a k = aread σ a k := fun k => by
    cases a <;> simp only [aread]
    case ptr m i =>
      have hne : m ≠ n := h
      simp [Store.up, hne]
  simp only [aload, hr]
/-- Addresses of two variables. -/
def frP (a b : AV) : Prop := match b with
  | .ptr m _ => frN a m
  | _ => True
/-- The variables in fr, made by other operations, and those at the words in fs, are not looked at. -/
def frC (fr fs : List Nat) (op : Op) (s : AS) : Prop := match op with
  | .load _ a => (∀ j ∈ fr, frA (s.ev a) ((s.ns.sub s.c).sub j)) ∧ ∀ t ∈ fs, frP (s.ev a) (s.ev (.tmp t))
  | _ => True

/-- The store when the operation has made its variable. -/
def made (δ : Option AObj) (n : Nm) (σ : Store) : Store := match δ with
  | some ob => σ.up n ob
  | none => σ

/-- The operation yields v here, makes a variable perhaps, and does no more. -/
def AYields (P : Program) (ops : Array Oper) (fr fs : List Nat) (i : Nat) (o : Oper) (v : AV) (δ : Option AObj) (s : AS) : Prop :=
  (awanted ops s o = some true ∧
    ((memFree o.op = true ∧ δ = none ∧ (aeff P ((s.ns.sub s.c).sub i) s.ev s.st o.op = .val v s.st ∨ ∃ f args, aeff P ((s.ns.sub s.c).sub i) s.ev s.st o.op = .call f args ∧ Pure P f args v)) ∨
     (loadOp o.op = true ∧ δ = none ∧ frC fr fs o.op s ∧ aeff P ((s.ns.sub s.c).sub i) s.ev s.st o.op = .val v s.st) ∨
     (allocOp o.op = true ∧ ∃ ob, δ = some ob ∧ aeff P ((s.ns.sub s.c).sub i) s.ev s.st o.op = .val v (s.st.up ((s.ns.sub s.c).sub i) ob)))) ∨
  (awanted ops s o = some false ∧ v = .tup [] ∧ δ = none)

/-- The state when it has gone. -/
def gone (i : Nat) (o : Oper) (v : AV) (δ : Option AObj) (s : AS) : AS := (s.setSt (made δ ((s.ns.sub s.c).sub i) s.st)).put o.dst v

theorem AYields.aOp {ops : Array Oper} {fr fs : List Nat} {i : Nat} {o : Oper} {v : AV} {δ : Option AObj} {s : AS} {K : AS → Prop} {Q : AExit → AS → Prop} (hi : ops[i]? = some o) (hy : AYields P ops fr fs i o v δ s) (h : K (gone i o v δ s)) : aOp P ops Q i K s := by
  unfold Go.Abs.aOp
  simp only [hi]
  rcases hy with ⟨hw, ⟨hl, rfl, hv | ⟨f, args, hc, hp⟩⟩ | ⟨hl, rfl, _, hv⟩ | ⟨hl, ob, rfl, hv⟩⟩ | ⟨hw, rfl, rfl⟩
  · simp only [hw, astep, hv]; exact h
  · simp only [hw, astep, hc]; exact (hp s.st _).mono fun e σ ⟨he, hσ⟩ => by subst he; subst hσ; exact h
  · simp only [hw, astep, hv]; exact h
  · simp only [hw, astep, hv]; exact h
  · simp only [hw]; exact h

theorem memFree_noSelect {op : Op} (h : memFree op = true) : ∀ cs b, op ≠ .select cs b := fun cs b e => by subst e; simp [memFree] at h

/-- A store to an address in fs. -/
def storeAt (fs : List Nat) (y : Op) : Bool := match y with
  | .store _ (.tmp t) _ => fs.contains t
  | _ => false
theorem storeAt_eff {fs : List Nat} {y : Op} (h : storeAt fs y = true) {n : Nm} {e : Operand → AV} {σ : Store} : (∃ t ∈ fs, ∃ m k ob, e (.tmp t) = .ptr m k ∧ aeff P n e σ y = .skip (σ.up m ob)) ∨ aeff P n e σ y = .bad := by
  unfold storeAt at h
  split at h
  · rename_i T t x
    simp only [aeff]
    cases hs : astore P σ T (e (.tmp t)) (e x) with
    | none => exact .inr rfl
    | some τ =>
      refine .inl ⟨t, by simpa using h, ?_⟩
      unfold astore at hs
      split at hs
      · rename_i m i vs k hm _ _
        split at hs
        · split at hs
          · injection hs with hs; exact ⟨m, i, _, hm, by rw [← hs]⟩
          · cases hs
        · cases hs
      · cases hs
  · cases h

/-- append. -/
def appendOp (y : Op) : Bool := match y with
  | .call c => match c.callee with
    | .builtin .append => true
    | _ => false
  | _ => false
theorem aload_del {a z : AV} {m : Nm} {σ : Store} (hm : σ m = some .tok) {t : TypeId} (h : aload P σ t a = some z) : aload P (σ.del m) t a = some z := by
  have hr : ∀ k cs, aread σ a k = some cs → aread (σ.del m) a k = some cs := fun k cs hk => by
    cases a <;> simp only [aread] at hk ⊢ <;> try exact hk
    case ptr m' i =>
      by_cases e : m' = m
      · subst e; rw [hm] at hk; cases hk
      · simp only [Store.del, e, if_false]; exact hk
  unfold aload at h ⊢
  split at h
  · split at h
    · rename_i k hk
      cases hc : aread σ a k with
      | none => rw [hc] at h; cases h
      | some cs => rw [hc] at h; simp only [hr _ _ hc]; exact h
    · cases h
  · split at h
    · rename_i u hu
      rw [hr _ _ hu]; exact h
    · cases h
  · cases h
theorem appendOp_eff {y : Op} (h : appendOp y = true) {n : Nm} {e : Operand → AV} {σ : Store} : (∃ v τ, aeff P n e σ y = .val v τ ∧ ∀ t a z, frA a n → aload P σ t a = some z → aload P τ t a = some z) ∨ aeff P n e σ y = .bad := by
  unfold appendOp at h
  split at h
  · rename_i c
    split at h
    · rename_i hc
      simp only [aeff, hc]
      split
      · rename_i s x hargs
        by_cases hrow : n.rows = true
        · rw [if_pos hrow]
          cases hs : aappendR P n σ c.argTypes s x with
          | none => exact .inr rfl
          | some p =>
            obtain ⟨v, τ⟩ := p
            refine .inl ⟨v, τ, rfl, fun t a z hf hz => ?_⟩
            have hfr : frN a (n.mk true) := by
              cases a <;> simp only [frA, frN] at hf ⊢
              exact hf.2.1
            have hdel : ∀ m, m.isRow = true → aload P σ t a = some z → aload P (σ.del m) t a = some z := fun m hm h => by
              have hne : ∀ m' i, a = .ptr m' i → m' ≠ m := fun m' i ha e => by
                subst ha; subst e
                have := hf.2.2 hm
                rw [hrow] at this; cases this
              have hr : ∀ k, aread (σ.del m) a k = aread σ a k := fun k => by
                cases a <;> simp only [aread]
                case ptr m' i => simp [Store.del, hne m' i rfl]
              simpa only [aload, hr] using h
            unfold aappendR at hs
            repeat' split at hs
            all_goals first
              | (cases hs; done)
              | (injection hs with hs; injection hs with h1 h2; subst h2; first | exact hz | (rw [aload_up hfr]; exact hz) | (rw [aload_up hfr]; rename_i hc; exact hdel _ hc.1 hz))
        rw [if_neg hrow]
        cases hs : aappend P n σ c.argTypes s x with
        | none => exact .inr rfl
        | some p =>
          obtain ⟨v, τ⟩ := p
          refine .inl ⟨v, τ, rfl, fun t a z hf hz => ?_⟩
          unfold aappend at hs
          repeat' split at hs
          all_goals first
            | (cases hs; done)
            | (injection hs with hs; injection hs with h1 h2; subst h2; first | exact hz | (rw [aload_up hf.n]; exact hz) | (rw [aload_up hf.n]; exact aload_del (by assumption) hz))
      · exact .inr rfl
    · cases h
  · cases h

/-- May the pair turn? -/
def turns (fr fs : List Nat) (j : Nat) (x y : Op) : Bool :=
  memFree x || (loadOp x && (quietOp y || ((allocOp y || appendOp y) && fr.contains j) || storeAt fs y)) || (allocOp x && (pureOp y || allocOp y))

theorem frC_put {ops : Array Oper} {fr fs : List Nat} {o : Oper} {s : AS} {σ : Store} {dst : Option Tmp} {v : AV} (h : ∀ d, dst = some d → d ∉ o.looksAt ops) (hfs : ∀ d, dst = some d → d ∈ fs → ∀ a, (∀ k ∈ fr, frA a ((s.ns.sub s.c).sub k)) → frP a v) (hc : frC fr fs o.op s) : frC fr fs o.op ((s.setSt σ).put dst v) := by
  unfold frC at *
  split
  · rename_i t a ho
    rw [ho] at hc
    simp only at hc
    have : ((s.setSt σ).put dst v).ev a = s.ev a := AS.ev_put (s := s.setSt σ) fun d hd hxd => h d hd (by
      subst hxd
      exact List.mem_append_left _ (List.mem_filterMap.2 ⟨.tmp d, by simp [ho, Op.operands], rfl⟩))
    rw [this]
    simp only [AS.put_ns, AS.put_c]
    refine ⟨hc.1, fun t ht => ?_⟩
    by_cases hd : dst = some t
    · subst hd
      have : ((s.setSt σ).put (some t) v).ev (.tmp t) = v ∨ ((s.setSt σ).put (some t) v).ev (.tmp t) = s.ev (.tmp t) := by
        simp only [AS.put, AS.ev, AS.setSt]
        by_cases hl : t < s.tmps.length
        · left; simp [List.getElem?_set, hl]
        · right; simp [List.getElem?_set, hl]
      rcases this with h' | h'
      · rw [h']; exact hfs t rfl ht _ hc.1
      · rw [h']; exact hc.2 t ht
    · have e2 : ((s.setSt σ).put dst v).ev (.tmp t) = s.ev (.tmp t) := AS.ev_put (s := s.setSt σ) fun d hd' hxd => by
        injection hxd with hxd; subst hxd; exact hd hd'
      rw [e2]; exact hc.2 t ht
  · trivial

/-- It does so too when a rival has gone first. -/
theorem AYields.after {ops : Array Oper} {fr fs : List Nat} {i : Nat} {oi oj : Oper} {v : AV} {δ : Option AObj} {s : AS} (hy : AYields P ops fr fs i oi v δ s) (hsi : ∀ cs b, oi.op ≠ .select cs b) (hap : ∀ d, oj.dst = some d → d ∉ oi.looksAt ops) (u : AV) (hfs : ∀ d, oj.dst = some d → d ∈ fs → ∀ a, (∀ k ∈ fr, frA a ((s.ns.sub s.c).sub k)) → frP a u) (σ : Store)
    (hm : ∀ t a z, oi.op = .load t a → frC fr fs oi.op s → aload P s.st t (s.ev a) = some z → aload P σ t (s.ev a) = some z) : AYields P ops fr fs i oi v δ ((s.setSt σ).put oj.dst u) := by
  unfold AYields
  simp only [AS.put_ns, AS.put_c, AS.put_st]
  rw [awanted_put hap, awanted_setSt, aeff_put hsi hap]
  rcases hy with ⟨hw, ⟨hl, hd, hv⟩ | ⟨hl, hd, hf, hv⟩ | ⟨hl, ob, hd, hv⟩⟩ | ⟨hw, hv, hd⟩
  · refine .inl ⟨hw, .inl ⟨hl, hd, ?_⟩⟩
    show (aeff P ((s.ns.sub s.c).sub i) s.ev σ oi.op = .val v σ ∨ ∃ f args, aeff P ((s.ns.sub s.c).sub i) s.ev σ oi.op = .call f args ∧ Pure P f args v)
    rw [aeff_memFree hl ((s.ns.sub s.c).sub i) ((s.ns.sub s.c).sub i) s.ev s.st σ]
    rcases hv with hv | ⟨f, args, hv, hp⟩
    · rw [hv]; exact .inl rfl
    · rw [hv]; exact .inr ⟨f, args, rfl, hp⟩
  · refine .inl ⟨hw, .inr (.inl ⟨hl, hd, frC_put hap hfs hf, ?_⟩)⟩
    show aeff P ((s.ns.sub s.c).sub i) s.ev σ oi.op = .val v σ
    unfold loadOp at hl
    split at hl
    · rename_i t a ho
      rw [ho] at hv
      have hx := fun z => hm t a z ho hf
      rw [ho]
      simp only [aeff, aquiet] at hv ⊢
      split at hv
      · rename_i z hz
        injection hv with hv _; subst hv
        rw [hx _ hz]
      · cases hv
    · cases hl
  · refine .inl ⟨hw, .inr (.inr ⟨hl, ob, hd, ?_⟩)⟩
    show aeff P ((s.ns.sub s.c).sub i) s.ev σ oi.op = .val v (σ.up ((s.ns.sub s.c).sub i) ob)
    rcases aeff_alloc_store (P := P) (n := (s.ns.sub s.c).sub i) (e := s.ev) hl with ⟨ob', h'⟩ | h'
    · rw [h'] at hv ⊢
      injection hv with hv hob; subst hv
      have := congrFun hob ((s.ns.sub s.c).sub i)
      simp at this; subst this; rfl
    · rw [h'] at hv; cases hv
  · exact .inr ⟨hw, hv, hd⟩

theorem Store.up_comm (σ : Store) {n m : Nm} (h : n ≠ m) (a b : AObj) : (σ.up n a).up m b = (σ.up m b).up n a := by
  funext k; simp only [Store.up]
  by_cases h1 : k = m
  · subst h1; simp [Ne.symm h]
  · by_cases h2 : k = n
    · subst h2; simp [h1]
    · simp [h1, h2]

theorem gone_put {i j : Nat} {oi oj : Oper} {v u : AV} {δ : Option AObj} {s : AS} {σ : Store} (h2 : ∀ d, oi.dst = some d → oj.dst ≠ some d) :
    gone i oi v δ ((s.setSt σ).put oj.dst u) = ((s.setSt (made δ ((s.ns.sub s.c).sub i) σ)).put oi.dst v).put oj.dst u := by
  unfold gone
  simp only [AS.put_ns, AS.put_c, AS.put_st]
  rw [AS.put_setSt, AS.put_comm _ v u h2]
  rfl

theorem aOp_put {ops : Array Oper} {fr fs : List Nat} {i j : Nat} {oi oj : Oper} {v : AV} {δ : Option AObj} {s : AS} {K : AS → Prop} {Q : AExit → AS → Prop} (hij : j ≠ i) (hj : ops[j]? = some oj) (hap : oi.apart ops oj = true) (ht : turns fr fs j oi.op oj.op = true) (hfs : ∀ d, oj.dst = some d → d ∈ fs → allocOp oj.op = true ∧ j ∈ fr)
    (hsi : ∀ cs b, oi.op ≠ .select cs b) (hsj : ∀ cs b, oj.op ≠ .select cs b) (hQ : ∀ c s, Q (.panic c) (s.put oi.dst v) → Q (.panic c) s) (hy : AYields P ops fr fs i oi v δ s) (h : aOp P ops Q j K (gone i oi v δ s)) :
    aOp P ops Q j (fun s' => AYields P ops fr fs i oi v δ s' ∧ K (gone i oi v δ s')) s := by
  obtain ⟨h1, h2, h3⟩ := Oper.apart_spec hap
  have hnij : ((s.ns.sub s.c).sub i) ≠ ((s.ns.sub s.c).sub j) := fun e => by injection e with _ e; exact hij e.symm
  have hw0 : awanted ops (gone i oi v δ s) oj = awanted ops s oj := by unfold gone; rw [awanted_put h1, awanted_setSt]
  have hev0 : ∀ n σ, aeff P n (gone i oi v δ s).ev σ oj.op = aeff P n s.ev σ oj.op := fun n σ => by unfold gone; exact aeff_put (s := s.setSt _) hsj h1
  have hns : (gone i oi v δ s).ns = s.ns := by unfold gone; simp; rfl
  have hcc : (gone i oi v δ s).c = s.c := by unfold gone; simp; rfl
  have hst : (gone i oi v δ s).st = made δ ((s.ns.sub s.c).sub i) s.st := by unfold gone; simp; rfl
  have hset : ∀ σ, (gone i oi v δ s).setSt σ = (s.setSt σ).put oi.dst v := fun σ => by unfold gone; rw [AS.put_setSt]; rfl
  have hδ : δ = none ∨ allocOp oi.op = true := by
    rcases hy with ⟨_, ⟨_, hd, _⟩ | ⟨_, hd, _⟩ | ⟨hl, _⟩⟩ | ⟨_, _, hd⟩
    · exact .inl hd
    · exact .inl hd
    · exact .inr hl
    · exact .inl hd
  unfold aOp at h ⊢
  simp only [hj] at h ⊢
  rw [hw0] at h
  split at h
  · rename_i hw
    try simp only [hw]
    unfold astep at h ⊢
    rw [hns, hcc, hst, hev0] at h
    -- what the rival does here
    have fin : ∀ (u : AV) (σ : Store), aeff P ((s.ns.sub s.c).sub j) s.ev s.st oj.op = .val u σ →
        (∀ t a z, oi.op = .load t a → frC fr fs oi.op s → aload P s.st t (s.ev a) = some z → aload P σ t (s.ev a) = some z) →
        aeff P ((s.ns.sub s.c).sub j) s.ev (made δ ((s.ns.sub s.c).sub i) s.st) oj.op = .val u (made δ ((s.ns.sub s.c).sub i) σ) →
        (match aeff P ((s.ns.sub s.c).sub j) s.ev s.st oj.op with
          | .val v' σ' => AYields P ops fr fs i oi v δ ((s.setSt σ').put oj.dst v') ∧ K (gone i oi v δ ((s.setSt σ').put oj.dst v'))
          | .skip σ' => AYields P ops fr fs i oi v δ ((s.setSt σ').put oj.dst (.tup [])) ∧ K (gone i oi v δ ((s.setSt σ').put oj.dst (.tup [])))
          | .call f args => ACalls P f args s.st ((s.ns.sub s.c).sub j) fun e σ' => match e with
            | .ret v' => AYields P ops fr fs i oi v δ ((s.setSt σ').put oj.dst v') ∧ K (gone i oi v δ ((s.setSt σ').put oj.dst v'))
            | .panic c => Q (.panic c) (s.setSt σ').bump
          | .yield l args => AYield P l args s.st s.fr fun b σ' F => AYields P ops fr fs i oi v δ ((s.setYd σ' F).put oj.dst (.bool b)) ∧ K (gone i oi v δ ((s.setYd σ' F).put oj.dst (.bool b)))
          | .panic c => Q (.panic c) s.bump
          | .bad => False) := by
      intro u σ he hm hm2
      rw [he]
      rw [hm2] at h
      refine ⟨hy.after hsi h3 u (fun d hd hx a ha => ?_) σ hm, ?_⟩
      · obtain ⟨g1, g2⟩ := hfs d hd hx
        rcases aeff_alloc_store (P := P) (n := (s.ns.sub s.c).sub j) (e := s.ev) g1 with ⟨ob, h'⟩ | h'
        · rw [h'] at he; injection he with he _; subst he; exact (ha j g2).n
        · rw [h'] at he; cases he
      rw [gone_put (j := j) h2]
      simp only [hset] at h
      exact h
    rcases hδ with rfl | hal
    · -- the first makes no variable
      simp only [made] at h fin ⊢
      cases he : aeff P ((s.ns.sub s.c).sub j) s.ev s.st oj.op with
      | val u σ =>
        have := fin u σ he (fun t a z ho hfc hz => ?_) he
        · rw [he] at this; exact this
        · skip
          have hl : loadOp oi.op = true := by rw [ho]; rfl
          have hmf : memFree oi.op = false := by rw [ho]; rfl
          have ha : allocOp oi.op = false := by rw [ho]; rfl
          unfold turns at ht
          simp only [hl, hmf, ha, Bool.false_or, Bool.true_and, Bool.false_and, Bool.or_false, Bool.or_eq_true, Bool.and_eq_true, List.contains_iff_mem] at ht
          have hfc' := hfc
          rw [ho] at hfc'
          simp only [frC] at hfc'
          rcases ht with (hq | ⟨ht1 | ht1, ht2⟩) | hsa
          · rcases aeff_quiet_store (P := P) (n := (s.ns.sub s.c).sub j) (e := s.ev) (σ := s.st) hq with ⟨u', hu'⟩ | hb
            · rw [he] at hu'; injection hu' with _ hσ; rw [hσ]; exact hz
            · rw [he] at hb; cases hb
          · rcases aeff_alloc_store (P := P) (n := (s.ns.sub s.c).sub j) (e := s.ev) ht1 with ⟨ob', h'⟩ | h'
            · rw [h'] at he; injection he with _ hσ
              rw [← hσ, aload_up (hfc'.1 j ht2).n]; exact hz
            · rw [h'] at he; cases he
          · rcases appendOp_eff (P := P) (n := (s.ns.sub s.c).sub j) (e := s.ev) (σ := s.st) ht1 with ⟨v', τ, h', hk⟩ | h'
            · rw [h'] at he; injection he with _ hσ
              rw [← hσ]; exact hk t _ z (hfc'.1 j ht2) hz
            · rw [h'] at he; cases he
          · rcases storeAt_eff (P := P) (n := (s.ns.sub s.c).sub j) (e := s.ev) (σ := s.st) hsa with ⟨t, ht, m, k, ob, hev, hb⟩ | hb
            · rw [he] at hb; cases hb
            · rw [he] at hb; cases hb
      | skip σ =>
        rw [he] at h
        simp only [hset] at h
        refine ⟨hy.after hsi h3 (.tup []) (fun _ _ _ _ _ => trivial) σ (fun t a z ho hfc hz => ?_), ?_⟩
        · skip
          have hl : loadOp oi.op = true := by rw [ho]; rfl
          have hmf : memFree oi.op = false := by rw [ho]; rfl
          have ha : allocOp oi.op = false := by rw [ho]; rfl
          unfold turns at ht
          simp only [hl, hmf, ha, Bool.false_or, Bool.true_and, Bool.false_and, Bool.or_false, Bool.or_eq_true, Bool.and_eq_true, List.contains_iff_mem] at ht
          have hfc' := hfc
          rw [ho] at hfc'
          simp only [frC] at hfc'
          rcases ht with (hq | ⟨ht1 | ht1, ht2⟩) | hsa
          · rcases aeff_quiet_store (P := P) (n := (s.ns.sub s.c).sub j) (e := s.ev) (σ := s.st) hq with ⟨u', hu'⟩ | hb
            · rw [he] at hu'; cases hu'
            · rw [he] at hb; cases hb
          · rcases aeff_alloc_store (P := P) (n := (s.ns.sub s.c).sub j) (e := s.ev) ht1 with ⟨ob', h'⟩ | h'
            · rw [h'] at he; cases he
            · rw [h'] at he; cases he
          · rcases appendOp_eff (P := P) (n := (s.ns.sub s.c).sub j) (e := s.ev) (σ := s.st) ht1 with ⟨v', τ, h', hk⟩ | h'
            · rw [h'] at he; cases he
            · rw [h'] at he; cases he
          · rcases storeAt_eff (P := P) (n := (s.ns.sub s.c).sub j) (e := s.ev) (σ := s.st) hsa with ⟨t', ht, m, k, ob, hev, hb⟩ | hb
            · rw [he] at hb; injection hb with hb
              have := hfc'.2 t' ht
              rw [hev] at this
              rw [hb, aload_up this]; exact hz
            · rw [he] at hb; cases hb
        · rw [gone_put (j := j) h2]; exact h
      | call f args =>
        rw [he] at h
        simp only [hset] at h
        refine ACalls.mono h fun e σ hk => ?_
        cases e with
        | ret u =>
          dsimp only at hk ⊢
          refine ⟨hy.after hsi h3 u (fun d hd hx a ha => by
            obtain ⟨g1, g2⟩ := hfs d hd hx
            rcases aeff_alloc_store (P := P) (n := (s.ns.sub s.c).sub j) (e := s.ev) g1 with ⟨ob, h'⟩ | h'
            · rw [h'] at he; cases he
            · rw [h'] at he; cases he) σ (fun t a z ho hfc hz => ?_), ?_⟩
          · exfalso
            have hl : loadOp oi.op = true := by rw [ho]; rfl
            have hmf : memFree oi.op = false := by rw [ho]; rfl
            have ha : allocOp oi.op = false := by rw [ho]; rfl
            unfold turns at ht
            simp only [hl, hmf, ha, Bool.false_or, Bool.true_and, Bool.false_and, Bool.or_false, Bool.or_eq_true, Bool.and_eq_true, List.contains_iff_mem] at ht
            have hfc' := hfc
            rw [ho] at hfc'
            simp only [frC] at hfc'
            rcases ht with (hq | ⟨ht1 | ht1, ht2⟩) | hsa
            · rcases aeff_quiet_store (P := P) (n := (s.ns.sub s.c).sub j) (e := s.ev) (σ := s.st) hq with ⟨u', hu'⟩ | hb
              · rw [he] at hu'; cases hu'
              · rw [he] at hb; cases hb
            · rcases aeff_alloc_store (P := P) (n := (s.ns.sub s.c).sub j) (e := s.ev) ht1 with ⟨ob', h'⟩ | h'
              · rw [h'] at he; cases he
              · rw [h'] at he; cases he
            · rcases appendOp_eff (P := P) (n := (s.ns.sub s.c).sub j) (e := s.ev) (σ := s.st) ht1 with ⟨v', τ, h', hk⟩ | h'
              · rw [h'] at he; cases he
              · rw [h'] at he; cases he
            · rcases storeAt_eff (P := P) (n := (s.ns.sub s.c).sub j) (e := s.ev) (σ := s.st) hsa with ⟨t, ht, m, k, ob, hev, hb⟩ | hb
              · rw [he] at hb; cases hb
              · rw [he] at hb; cases hb
          · rw [gone_put (j := j) h2]; exact hk
        | panic c =>
          dsimp only at hk ⊢
          refine hQ c _ ?_
          have : ((s.setSt σ).put oi.dst v).bump = ((s.setSt σ).bump).put oi.dst v := by cases oi.dst <;> rfl
          rw [this] at hk; exact hk
      | yield l args =>
        rw [he] at h
        dsimp only at h ⊢
        have hfr0 : (gone i oi v none s).fr = s.fr := by unfold gone; cases oi.dst <;> rfl
        have hset2 : ∀ σ F, (gone i oi v none s).setYd σ F = (s.setYd σ F).put oi.dst v := fun σ F => by unfold gone; cases oi.dst <;> rfl
        rw [hfr0] at h
        refine AYield.mono h fun b σ F _ hk => ?_
        rw [hset2] at hk
        have hy' : AYields P ops fr fs i oi v none ({ s with fr := F } : AS) := hy
        refine ⟨hy'.after hsi h3 (.bool b) (fun _ _ _ _ _ => trivial) σ (fun t a z ho hfc hz => ?_), ?_⟩
        · exfalso
          have hl : loadOp oi.op = true := by rw [ho]; rfl
          have hmf : memFree oi.op = false := by rw [ho]; rfl
          have ha : allocOp oi.op = false := by rw [ho]; rfl
          unfold turns at ht
          simp only [hl, hmf, ha, Bool.false_or, Bool.true_and, Bool.false_and, Bool.or_false, Bool.or_eq_true, Bool.and_eq_true, List.contains_iff_mem] at ht
          rcases ht with (hq | ⟨ht1 | ht1, ht2⟩) | hsa
          · rcases aeff_quiet_store (P := P) (n := (s.ns.sub s.c).sub j) (e := s.ev) (σ := s.st) hq with ⟨u', hu'⟩ | hb
            · rw [he] at hu'; cases hu'
            · rw [he] at hb; cases hb
          · rcases aeff_alloc_store (P := P) (n := (s.ns.sub s.c).sub j) (e := s.ev) ht1 with ⟨ob', h'⟩ | h'
            · rw [h'] at he; cases he
            · rw [h'] at he; cases he
          · rcases appendOp_eff (P := P) (n := (s.ns.sub s.c).sub j) (e := s.ev) (σ := s.st) ht1 with ⟨v', τ, h', hk⟩ | h'
            · rw [h'] at he; cases he
            · rw [h'] at he; cases he
          · rcases storeAt_eff (P := P) (n := (s.ns.sub s.c).sub j) (e := s.ev) (σ := s.st) hsa with ⟨t, ht, m, k, ob, hev, hb⟩ | hb
            · rw [he] at hb; cases hb
            · rw [he] at hb; cases hb
        · have e2 := gone_put (i := i) (j := j) (oi := oi) (oj := oj) (v := v) (u := .bool b) (δ := none) (s := ({ s with fr := F } : AS)) (σ := σ) h2
          have e3 : (({ s with fr := F } : AS).setSt σ) = s.setYd σ F := rfl
          rw [e3] at e2
          rw [e2]; exact hk
      | panic c =>
        rw [he] at h
        dsimp only at h ⊢
        refine hQ c _ ?_
        have : (gone i oi v none s).bump = (s.bump).put oi.dst v := by unfold gone; cases oi.dst <;> rfl
        rw [this] at h; exact h
      | bad => rw [he] at h; exact h.elim
    · -- it makes one
      have hmf : memFree oi.op = false := by revert hal; cases oi.op <;> simp [allocOp, memFree]
      have hlo : loadOp oi.op = false := by revert hal; cases oi.op <;> simp [allocOp, loadOp]
      unfold turns at ht
      simp [hmf, hlo] at ht
      rcases ht.2 with hp | hp
      · simp only [pureOp, Bool.and_eq_true] at hp
        rw [aeff_memFree hp.1 ((s.ns.sub s.c).sub j) ((s.ns.sub s.c).sub j) s.ev s.st] at h
        rcases aeff_quiet_store (P := P) (n := (s.ns.sub s.c).sub j) (e := s.ev) (σ := s.st) hp.2 with ⟨u, hu⟩ | hb
        · refine fin u s.st hu (fun t a z ho => by rw [ho] at hlo; cases hlo) ?_
          rw [aeff_memFree hp.1 ((s.ns.sub s.c).sub j) ((s.ns.sub s.c).sub j) s.ev s.st, hu]; rfl
        · rw [hb] at h; exact h.elim
      · rcases aeff_alloc_store (P := P) (n := (s.ns.sub s.c).sub j) (e := s.ev) hp with ⟨ob, hu⟩ | hb
        · refine fin _ _ (hu s.st) (fun t a z ho => by rw [ho] at hlo; cases hlo) ?_
          rw [hu]
          congr 1
          unfold made
          split
          · exact Store.up_comm _ hnij _ _
          · rfl
        · rw [hb] at h; exact h.elim
  · rename_i hw
    try simp only [hw]
    refine ⟨hy.after (s := s) hsi h3 (.tup []) (fun _ _ _ _ _ => trivial) s.st (fun _ _ _ _ _ hz => hz), ?_⟩
    have := gone_put (i := i) (j := j) (oi := oi) (oj := oj) (v := v) (u := .tup []) (δ := δ) (s := s) (σ := s.st) h2
    have e : s.setSt s.st = s := rfl
    rw [e] at this
    rw [this]; exact h
  · exact h.elim

theorem aOp_mono {ops : Array Oper} {i : Nat} {s : AS} {K K' : AS → Prop} {Q : AExit → AS → Prop} (h : ∀ s, K s → K' s) (hk : aOp P ops Q i K s) : aOp P ops Q i K' s := by
  unfold aOp at hk ⊢
  split at hk
  · exact h _ hk
  · split at hk
    · unfold astep at hk ⊢
      split at hk
      · exact h _ hk
      · exact h _ hk
      · refine hk.mono fun e σ he => ?_
        cases e with
        | ret v => exact h _ he
        | panic v => exact he
      · exact hk.mono fun b σ F _ hb => h _ hb
      · exact hk
      · exact hk
    · exact h _ hk
    · exact hk

/-- R: those that come after i, by edges. -/
theorem awAny_first {ops : Array Oper} {Q : AExit → AS → Prop} {fr fs : List Nat} {R : List Nat} {i : Nat} {oi : Oper} {v : AV} {δ : Option AObj} (hi : ops[i]? = some oi) (hsel : ∀ (j : Nat) (o : Oper) cs b, ops[j]? = some o → o.op ≠ .select cs b)
    (hR : ∀ j oj, j ∈ R → ops[j]? = some oj → ∃ e ∈ oj.after, Region.binds .any e = true ∧ (e.on = i ∨ e.on ∈ R)) (hiR : i ∉ R)
    (hQ : ∀ c s, Q (.panic c) (s.put oi.dst v) → Q (.panic c) s) :
    ∀ (fuel : Nat) (listed : Array Bool) (s : AS),
      (∀ j oj, ops[j]? = some oj → j ≠ i → listed.getD j true = false → j ∉ R → oi.apart ops oj = true ∧ turns fr fs j oi.op oj.op = true ∧ ∀ d, oj.dst = some d → d ∈ fs → allocOp oj.op = true ∧ j ∈ fr) → (∀ j, j ∈ R → listed.getD j false = false) →
      i ∈ Region.ready .any ops listed → AYields P ops fr fs i oi v δ s →
      awAny P ops Q fuel (listed.setIfInBounds i true) (gone i oi v δ s) → awAny P ops Q (fuel + 1) listed s := by
  intro fuel
  induction fuel with
  | zero =>
    intro listed s _ _ hr hy H
    refine ⟨fun h => (by rw [h] at hr; cases hr), fun j hj => ?_⟩
    by_cases hji : j = i
    · subst hji; exact hy.aOp hi H
    · have := ready_mono hj hji
      rw [H.1] at this
      cases this
  | succ fuel ih =>
    intro listed s hfree hRl hr hy H
    refine ⟨fun h => (by rw [h] at hr; cases hr), fun j hj => ?_⟩
    by_cases hji : j = i
    · subst hji; exact hy.aOp hi H
    · have h1 := H.2 j (ready_mono hj hji)
      obtain ⟨hjun, oj, hoj, hall⟩ := mem_ready.1 hj
      have hil : listed.getD i false = false := by
        have h0 := (mem_ready.1 hr).1
        rcases Nat.lt_or_ge i listed.size with h' | h'
        · simp [h'] at h0 ⊢; exact h0
        · simp [Array.getElem?_eq_none h']
      have hjR : j ∉ R := fun hx => by
        obtain ⟨e, he, hb, h⟩ := hR j oj hx hoj
        have hl := hall e he hb
        rcases h with h | h
        · rw [h, hil] at hl; cases hl
        · rw [hRl _ h] at hl; cases hl
      obtain ⟨hap, hmm, hfs⟩ := hfree j oj hoj hji hjun hjR
      have h2 := aOp_put hji hoj hap hmm hfs (fun cs b => hsel i oi cs b hi) (fun cs b => hsel j oj cs b hoj) hQ hy h1
      refine aOp_mono (fun s' h3 => ih (listed.setIfInBounds j true) s' (fun k ok hk hki hun hno => ?_) (fun k hk => ?_) (ready_mono hr (Ne.symm hji)) h3.1 ?_) h2
      · refine hfree k ok hk hki ?_ hno
        by_cases hjk : j = k
        · subst hjk; exact hjun
        · rw [getD_set_ne true hjk] at hun; exact hun
      · have hjk : j ≠ k := fun e => hjR (e ▸ hk)
        rw [getD_set_ne false hjk]; exact hRl k hk
      · rw [Array.setIfInBounds_comm _ _ hji]
        exact h3.2

/-- Those that come after i. -/
def laterGo (ops : Array Oper) (i : Nat) : Nat → List Nat → List Nat
  | 0, R => R
  | k + 1, R => laterGo ops i k ((List.range ops.size).filter fun j => j != i && match ops[j]? with
      | some o => o.after.any fun e => Region.binds .any e && (e.on == i || R.contains e.on)
      | none => false)
def later (ops : Array Oper) (i : Nat) : List Nat := laterGo ops i ops.size []
/-- Those that make a variable and may come before i. -/
def makers (ops : Array Oper) (listed : Array Bool) (i : Nat) (R : List Nat) : List Nat :=
  (List.range ops.size).filter fun j => j != i && !(listed.getD j true) && !(R.contains j) && match ops[j]? with
    | some o => allocOp o.op
    | none => false
/-- May i go first? R: a mask, those that come after i. -/
def freeA (ops : Array Oper) (listed : Array Bool) (fr fs : List Nat) (R i : Nat) : Bool :=
  match ops[i]? with
  | none => false
  | some oi => Region.noSelect ops && (Region.ready .any ops listed).contains i && !(R.testBit i) &&
    ((List.range ops.size).all fun j => !(R.testBit j) || (!(listed.getD j false) && match ops[j]? with
      | some o => o.after.any fun e => Region.binds .any e && (e.on == i || (decide (e.on < ops.size) && R.testBit e.on))
      | none => true)) &&
    (List.range ops.size).all fun j => j == i || listed.getD j true || R.testBit j || match ops[j]? with
      | some oj => oi.apart ops oj && turns fr fs j oi.op oj.op && fs.all fun t => oj.dst != some t || (allocOp oj.op && fr.contains j)
      | none => true

theorem awAny_take {ops : Array Oper} {Q : AExit → AS → Prop} {fr fs : List Nat} {R i : Nat} {oi : Oper} {v : AV} {δ : Option AObj} {fuel : Nat} {listed : Array Bool} {s : AS} (hi : ops[i]? = some oi) (hf : freeA ops listed fr fs R i = true)
    (hQ : ∀ c s, Q (.panic c) (s.put oi.dst v) → Q (.panic c) s) (hy : AYields P ops fr fs i oi v δ s) (h : awAny P ops Q fuel (listed.setIfInBounds i true) (gone i oi v δ s)) : awAny P ops Q (fuel + 1) listed s := by
  simp only [freeA, hi, Bool.and_eq_true, List.all_eq_true, List.mem_range] at hf
  obtain ⟨⟨⟨⟨hs, hr⟩, hiR⟩, hRR⟩, hall⟩ := hf
  have hmem : ∀ j, j ∈ (List.range ops.size).filter (fun j => R.testBit j) ↔ j < ops.size ∧ R.testBit j = true := fun j => by simp
  refine awAny_first (R := (List.range ops.size).filter fun j => R.testBit j) hi (Region.noSelect_spec hs) (fun j oj hj hoj => ?_) (fun hx => by rw [((hmem i).1 hx).2] at hiR; simp at hiR) hQ fuel listed s (fun j oj hj hne hun hno => ?_) (fun j hj => ?_) (by simpa using hr) hy h
  · have hj' := (hmem j).1 hj
    have := hRR j hj'.1
    rw [hj'.2, hoj] at this
    simp only [Bool.not_true, Bool.false_or, Bool.and_eq_true] at this
    obtain ⟨e, he, hb⟩ := Array.any_eq_true'.1 this.2
    simp only [Bool.and_eq_true, Bool.or_eq_true, beq_iff_eq, decide_eq_true_eq] at hb
    exact ⟨e, he, hb.1, hb.2.imp id fun h => (hmem _).2 h⟩
  · have hlt := (Array.getElem?_eq_some_iff.1 hj).1
    have hno' : R.testBit j = false := by
      cases hx : R.testBit j with
      | false => rfl
      | true => exact absurd ((hmem j).2 ⟨hlt, hx⟩) hno
    have h1 := hall j hlt
    simp only [hj, Bool.or_eq_true, beq_iff_eq, hne, false_or, hun, Bool.false_eq_true, hno', Bool.and_eq_true] at h1
    obtain ⟨⟨h2, h3⟩, h4⟩ := h1
    refine ⟨h2, h3, fun d hd hx => ?_⟩
    have := List.all_eq_true.1 h4 d hx
    simpa [hd] using this
  · have hj' := (hmem j).1 hj
    have := hRR j hj'.1
    rw [hj'.2] at this
    simp only [Bool.not_true, Bool.false_or, Bool.and_eq_true] at this
    simpa using this.1
/-- The only one that is ready. -/
theorem awAny_only {ops : Array Oper} {Q : AExit → AS → Prop} {i : Nat} {fuel : Nat} {listed : Array Bool} {s : AS} (hr : Region.ready .any ops listed = [i])
    (h : aOp P ops Q i (awAny P ops Q fuel (listed.setIfInBounds i true)) s) : awAny P ops Q (fuel + 1) listed s := by
  refine ⟨fun h0 => (by rw [hr] at h0; cases h0), fun j hj => ?_⟩
  rw [hr] at hj
  simp at hj; subst hj; exact h
theorem awAny_done {ops : Array Oper} {Q : AExit → AS → Prop} {listed : Array Bool} {s : AS} (hr : Region.ready .any ops listed = []) (h : Q .normal s.bump) : ∀ fuel, awAny P ops Q fuel listed s
  | 0 => ⟨hr, h⟩
  | _ + 1 => ⟨fun _ => h, by rw [hr]; simp⟩

/-! ### Plans -/
/-- A plan: the only one that is ready; one that may go first, with the variables that others make, and those that come after it; two that are ready, either first. -/
inductive Plan where
  | done
  | only (i : Nat) (r : Plan)
  | take (i : Nat) (fr fs : List Nat) (R : Nat) (r : Plan)
  | fork (i : Nat) (p : Plan) (j : Nat) (q : Plan)
  | fork3 (i : Nat) (p : Plan) (j : Nat) (q : Plan) (k : Nat) (r : Plan)
def Plan.len : Plan → Nat
  | .done => 0
  | .only _ r => r.len + 1
  | .take _ _ _ _ r => r.len + 1
  | .fork _ p _ q => max p.len q.len + 1
  | .fork3 _ p _ q _ r => max (max p.len q.len) r.len + 1
/-- Does the plan fit the region? -/
def planFits (ops : Array Oper) : Plan → Array Bool → Bool
  | .done, l => Region.ready .any ops l == []
  | .only i r, l => Region.ready .any ops l == [i] && planFits ops r (l.setIfInBounds i true)
  | .take i fr fs R r, l => freeA ops l fr fs R i && planFits ops r (l.setIfInBounds i true)
  | .fork i p j q, l => Region.ready .any ops l == [i, j] && planFits ops p (l.setIfInBounds i true) && planFits ops q (l.setIfInBounds j true)
  | .fork3 i p j q k r, l => Region.ready .any ops l == [i, j, k] && planFits ops p (l.setIfInBounds i true) && planFits ops q (l.setIfInBounds j true) && planFits ops r (l.setIfInBounds k true)

/-- A step that may go first. -/
def takeE (r : AEff) (P : Program) (dst : Option Tmp) (K : AS → Prop) (s : AS) : Prop :=
  match r with
  | .val v σ => K ((s.setSt σ).put dst v)
  | .call f args => ∃ v, Pure P f args v ∧ K (s.put dst v)
  | _ => False
@[congr] theorem takeE_congr {r r' : AEff} {dst : Option Tmp} {K : AS → Prop} {s s' : AS} (hr : r = r') (h : idm s = s') : takeE r P dst K s = takeE r' P dst K s' := by rw [← h, idm_eq, hr]
def takeO (P : Program) (o : Oper) (i : Nat) (fr fs : List Nat) (K : AS → Prop) (s : AS) : Prop := frC fr fs o.op s ∧ (memFree o.op || loadOp o.op || allocOp o.op) = true ∧ takeE (aeff P ((s.ns.sub s.c).sub i) s.ev s.st o.op) P o.dst K s
/-- The region, by a plan. -/
def aPlan (P : Program) (ops : Array Oper) (Q : AExit → AS → Prop) : Plan → AS → Prop
  | .done, s => Q .normal s.bump
  | .only i r, s => aOp P ops Q i (aPlan P ops Q r) s
  | .fork i p j q, s => aOp P ops Q i (aPlan P ops Q p) s ∧ aOp P ops Q j (aPlan P ops Q q) s
  | .fork3 i p j q k r, s => aOp P ops Q i (aPlan P ops Q p) s ∧ aOp P ops Q j (aPlan P ops Q q) s ∧ aOp P ops Q k (aPlan P ops Q r) s
  | .take i fr fs _ r, s => match ops[i]? with
    | none => False
    | some o => match awanted ops s o with
      | some true => takeO P o i fr fs (aPlan P ops Q r) s
      | some false => aPlan P ops Q r (s.put o.dst (.tup []))
      | none => False

/-- Where a panic goes: what lies in the frame's words is not looked at. -/
def Blind (Q : AExit → AS → Prop) : Prop := ∀ (c : AV) (s : AS) (d : Option Tmp) (v : AV), Q (.panic c) (s.put d v) → Q (.panic c) s

theorem aPlan_sound {ops : Array Oper} {Q : AExit → AS → Prop} (hb : Blind Q) : ∀ (pl : Plan) (fuel : Nat) (listed : Array Bool) (s : AS), pl.len ≤ fuel → planFits ops pl listed = true → aPlan P ops Q pl s → awAny P ops Q fuel listed s := by
  intro pl
  induction pl with
  | done => intro fuel listed s _ hf h; exact awAny_done (by simpa [planFits] using hf) h fuel
  | only i r ih =>
    intro fuel listed s hl hf h
    obtain ⟨fuel, rfl⟩ : ∃ f, fuel = f + 1 := ⟨fuel - 1, by simp only [Plan.len] at hl; omega⟩
    simp only [Plan.len, Nat.add_le_add_iff_right] at hl
    simp only [planFits, Bool.and_eq_true, beq_iff_eq] at hf
    exact awAny_only hf.1 (aOp_mono (fun s' hs => ih fuel _ s' hl hf.2 hs) h)
  | fork i p j q ihp ihq =>
    intro fuel listed s hl hf h
    obtain ⟨fuel, rfl⟩ : ∃ f, fuel = f + 1 := ⟨fuel - 1, by simp only [Plan.len] at hl; omega⟩
    simp only [Plan.len, Nat.add_le_add_iff_right] at hl
    simp only [planFits, Bool.and_eq_true, beq_iff_eq] at hf
    refine ⟨fun h0 => (by rw [hf.1.1] at h0; cases h0), fun k hk => ?_⟩
    rw [hf.1.1] at hk
    simp only [List.mem_cons, List.not_mem_nil, or_false] at hk
    rcases hk with rfl | rfl
    · exact aOp_mono (fun s' hs => ihp fuel _ s' (by omega) hf.1.2 hs) h.1
    · exact aOp_mono (fun s' hs => ihq fuel _ s' (by omega) hf.2 hs) h.2
  | fork3 i p j q k r ihp ihq ihr =>
    intro fuel listed s hl hf h
    obtain ⟨fuel, rfl⟩ : ∃ f, fuel = f + 1 := ⟨fuel - 1, by simp only [Plan.len] at hl; omega⟩
    simp only [Plan.len, Nat.add_le_add_iff_right] at hl
    simp only [planFits, Bool.and_eq_true, beq_iff_eq] at hf
    refine ⟨fun h0 => (by rw [hf.1.1.1] at h0; cases h0), fun x hx => ?_⟩
    rw [hf.1.1.1] at hx
    simp only [List.mem_cons, List.not_mem_nil, or_false] at hx
    rcases hx with rfl | rfl | rfl
    · exact aOp_mono (fun s' hs => ihp fuel _ s' (by omega) hf.1.1.2 hs) h.1
    · exact aOp_mono (fun s' hs => ihq fuel _ s' (by omega) hf.1.2 hs) h.2.1
    · exact aOp_mono (fun s' hs => ihr fuel _ s' (by omega) hf.2 hs) h.2.2
  | take i fr fs R r ih =>
      intro fuel listed s hl hf h
      obtain ⟨fuel, rfl⟩ : ∃ f, fuel = f + 1 := ⟨fuel - 1, by simp only [Plan.len] at hl; omega⟩
      simp only [Plan.len, Nat.add_le_add_iff_right] at hl
      simp only [planFits, Bool.and_eq_true] at hf
      simp only [aPlan] at h
      split at h
      · exact h.elim
      · rename_i o ho
        have hpick : memFree o.op = true ∨ (memFree o.op = false ∧ loadOp o.op = true) ∨ (memFree o.op = false ∧ loadOp o.op = false ∧ allocOp o.op = true) ∨ (memFree o.op = false ∧ loadOp o.op = false ∧ allocOp o.op = false) := by
          cases memFree o.op <;> cases loadOp o.op <;> cases allocOp o.op <;> simp
        split at h
        · rename_i hw
          obtain ⟨hfr, hkind, h⟩ := h
          unfold takeE at h
          split at h
          · rename_i v σ he
            rcases hpick with hp | ⟨hp0, hp⟩ | ⟨hp0, hp1, hp⟩ | ⟨hp0, hp1, hp⟩
            · have e2 := aeff_memFree (P := P) hp ((s.ns.sub s.c).sub i) ((s.ns.sub s.c).sub i) s.ev s.st s.st
              have hσ : σ = s.st := by
                rw [he] at e2; simp only [AEff.with] at e2; injection e2 with _ e2
              subst hσ
              exact awAny_take (δ := none) (v := v) ho hf.1 (fun c s hq => hb c s _ _ hq) (.inl ⟨hw, .inl ⟨hp, rfl, .inl he⟩⟩) (ih fuel _ _ hl hf.2 h)
            · rcases aeff_quiet_store (P := P) (op := o.op) (n := (s.ns.sub s.c).sub i) (e := s.ev) (σ := s.st) (by revert hp; cases o.op <;> simp [loadOp, quietOp]) with ⟨u, hu⟩ | hu
              · rw [he] at hu; injection hu with hv hσ; subst hv; subst hσ
                exact awAny_take (δ := none) (v := v) ho hf.1 (fun c s hq => hb c s _ _ hq) (.inl ⟨hw, .inr (.inl ⟨hp, rfl, hfr, he⟩)⟩) (ih fuel _ _ hl hf.2 h)
              · rw [he] at hu; cases hu
            · rcases aeff_alloc_store (P := P) (n := (s.ns.sub s.c).sub i) (e := s.ev) hp with ⟨ob, hu⟩ | hu
              · have he' := he
                rw [hu] at he; injection he with hv hσ; subst hv; subst hσ
                exact awAny_take (δ := some ob) (v := .ptr ((s.ns.sub s.c).sub i) 0) ho hf.1 (fun c s hq => hb c s _ _ hq) (.inl ⟨hw, .inr (.inr ⟨hp, ob, rfl, he'⟩)⟩) (ih fuel _ _ hl hf.2 h)
              · rw [hu] at he; cases he
            · simp [hp0, hp1, hp] at hkind
          · rename_i f args he
            obtain ⟨v, hpu, h⟩ := h
            rcases hpick with hp | ⟨hp0, hp⟩ | ⟨hp0, hp1, hp⟩ | ⟨hp0, hp1, hp⟩
            · exact awAny_take (δ := none) (v := v) ho hf.1 (fun c s hq => hb c s _ _ hq) (.inl ⟨hw, .inl ⟨hp, rfl, .inr ⟨f, args, he, hpu⟩⟩⟩) (ih fuel _ _ hl hf.2 h)
            · rcases aeff_quiet_store (P := P) (op := o.op) (n := (s.ns.sub s.c).sub i) (e := s.ev) (σ := s.st) (by revert hp; cases o.op <;> simp [loadOp, quietOp]) with ⟨u, hu⟩ | hu
              · rw [he] at hu; cases hu
              · rw [he] at hu; cases hu
            · rcases aeff_alloc_store (P := P) (n := (s.ns.sub s.c).sub i) (e := s.ev) hp with ⟨ob, hu⟩ | hu
              · rw [hu] at he; cases he
              · rw [hu] at he; cases he
            · simp [hp0, hp1, hp] at hkind
          · exact h.elim
        · rename_i hw
          exact awAny_take (δ := none) (v := .tup []) ho hf.1 (fun c s hq => hb c s _ _ hq) (.inr ⟨hw, rfl, rfl⟩) (ih fuel _ _ hl hf.2 h)
        · exact h.elim

class BlindQ (Q : AExit → AS → Prop) : Prop where
  h : Blind Q
end
end Go.Abs
