/- Quiet operations, all together. -/
import Derived.Test.YtbnmdfappoeipaaA5
import Derived.Laws.Cover3
set_option linter.unusedVariables false
set_option linter.unusedSimpArgs false
namespace Go.Abs

def aint (op : BinOp) (k k' : IntKind) (a b : Int) : Option AV :=
  match op with
  | .shl => if 0 ≤ b ∧ b ≤ k.bits then some (.int k (k.wrap (a * 2 ^ b.toNat))) else none
  | .shr => if 0 ≤ b ∧ b ≤ k.bits then some (.int k (a / 2 ^ b.toNat)) else none
  | .add => if k = k' then some (.int k (k.wrap (a + b))) else none
  | .sub => if k = k' then some (.int k (k.wrap (a - b))) else none
  | .mul => if k = k' then some (.int k (k.wrap (a * b))) else none
  | .quo => if k = k' ∧ ¬ b = 0 then some (.int k (k.wrap (a.tdiv b))) else none
  | .rem => if k = k' ∧ ¬ b = 0 then some (.int k (a.tmod b)) else none
  | .and => if k = k' then some (.int k (bits .and k a b)) else none
  | .or => if k = k' then some (.int k (bits .or k a b)) else none
  | .xor => if k = k' then some (.int k (bits .xor k a b)) else none
  | .andNot => if k = k' then some (.int k (bits .andNot k a b)) else none
  | .eql => if k = k' then some (.bool (a == b)) else none
  | .neq => if k = k' then some (.bool (a != b)) else none
  | .lss => if k = k' then some (.bool (decide (a < b))) else none
  | .leq => if k = k' then some (.bool (decide (a ≤ b))) else none
  | .gtr => if k = k' then some (.bool (decide (a > b))) else none
  | .geq => if k = k' then some (.bool (decide (a ≥ b))) else none

def astr (op : BinOp) (a b : ByteArray) : Option AV :=
  match op with
  | .add => if a.size + b.size ≤ 9223372036854775807 then some (.str (a ++ b)) else none
  | .eql => some (.bool (a == b))
  | .neq => some (.bool (!(a == b)))
  | .lss => some (.bool (Op.bytesLess a.toList b.toList))
  | .leq => some (.bool (Op.bytesLess a.toList b.toList || a == b))
  | .gtr => some (.bool !(Op.bytesLess a.toList b.toList || a == b))
  | .geq => some (.bool !(Op.bytesLess a.toList b.toList))
  | _ => none

def isConst : Operand → Bool
  | .const _ => true
  | _ => false

def aguard (P : Program) (t : TypeId) (xo yo : Operand) (x y : AV) : Bool :=
  match x, y with
  | .bool _, _ => true
  | .nilptr, _ => true
  | .ptr _ _, _ => true
  | .cptr _, _ => true
  | .nilmap, _ => true
  | .map _, _ => true
  | .nilfn, _ => true
  | .fn _ _ _, _ => true
  | .ifc _ _, _ => true
  | .nilifc, .ifc _ _ => true
  | .nilifc, .nilifc => isConst xo || isConst yo
  | .agg _, .agg _ => !P.eqGuardType P.depth t
  | _, _ => false

/-- Is a slice nil? -/
def slNil (es : List (List AV)) (c : Cap) : AV := match c with
  | .nil => .bool true
  | .tok _ => .bool false
  | _ => if es.isEmpty = true then .anyb else .bool false

def abin (P : Program) (op : BinOp) (t : TypeId) (xo yo : Operand) (x y : AV) : Option AV :=
  match x, y with
  | .int k a, .int k' b => aint op k k' a b
  | .str a, .str b => astr op a b
  | .sl _ es c, .sl _ _ .nil => if (tyElem P t).isSome = true then
      match op with
      | .eql => some (slNil es c)
      | .neq => some (match slNil es c with | .bool b => .bool (!b) | v => v)
      | _ => none
    else none
  | x, y => if aguard P t xo yo x y = true then
      match op with
      | .eql => (aeq P 9 t x y).map .bool
      | .neq => (aeq P 9 t x y).map fun b => .bool (!b)
      | _ => none
    else none

def aun (op : UnOp) (x : AV) : Option AV :=
  match op, x with
  | .neg, .int k n => some (.int k (k.wrap (0 - n)))
  | .not, .bool b => some (.bool (!b))
  | .xor, .int k n => some (.int k (bits .xor k (if k.signed then -1 else k.max) n))
  | _, _ => none

def tyInt (P : Program) (t : TypeId) : Option IntKind := match P.underlying t with
  | some (.int k) => some k
  | _ => none
def tyIface (P : Program) (t : TypeId) : Option Bool := (P.underlying t).map fun d => match d with | .interface _ => true | _ => false

def aconv (P : Program) (src dst : TypeId) (x : AV) : Option AV :=
  match x with
  | .int _ n => match tyInt P dst with
    | some k => if (P.underlying src).isSome = true then some (.int k (k.wrap n)) else none
    | none => none
  | .str s => if (P.underlying src).isSome = true ∧ tyStr P dst = true then some (.str s) else none
  | _ => none

/-- A bound of a slice expression. -/
def abound (x : Option AV) (d : Nat) : Option Nat :=
  match x with
  | none => some d
  | some (.int _ i) => if 0 ≤ i then some i.toNat else none
  | some _ => none

def aslice (P : Program) (t : TypeId) (x : AV) (lo hi mx : Option AV) : Option AV :=
  match x with
  | .str s => match abound lo 0, abound hi s.size with
    | some l, some h => if tyStr P t = true ∧ mx.isNone = true ∧ l ≤ h ∧ h ≤ s.size then some (.str (s.extract l h)) else none
    | _, _ => none
  | .sl sz es c => match abound lo 0, abound hi es.length, tyElem P t with
    | some l, some h, some e =>
      if (tySize P e = some sz ∨ es = []) ∧ (tySize P e).isSome = true ∧ l ≤ h ∧ h ≤ es.length then
        match mx with
        | none => some (.sl sz ((es.take h).drop l) (if h = es.length then (match c with | .tok n => if l < es.length then .tok n else .unk | c => c) else .unk))
        | some m => match abound (some m) 0 with
          | some m => if hi.isSome = true ∧ m = h then some (.sl sz ((es.take h).drop l) .exact) else none
          | none => none
      else none
    | _, _, _ => none
  | _ => none

def abuild (P : Program) (t : TypeId) (parts : List (Nat × AV)) : Option AV :=
  match tyZero P t, tyPlaces P t with
  | some z, some pl => (afill (placeOf pl) z parts).map .agg
  | _, _ => none

def min4 (a b c d : Int) : Int := if d < (if c < (if b < a then b else a) then c else (if b < a then b else a)) then d else (if c < (if b < a then b else a) then c else (if b < a then b else a))
def max4 (a b c d : Int) : Int := if (if (if a < b then b else a) < c then c else (if a < b then b else a)) < d then d else (if (if a < b then b else a) < c then c else (if a < b then b else a))
def abuiltin (P : Program) (b : Builtin) (ts : Array TypeId) (xs : List AV) : Option AV :=
  match b, xs with
  | .len, [.str s] => if tyStr P (ts.getD 0 0) = true ∧ 0 < ts.size then some (.int .i64 s.size) else none
  | .len, [.sl _ es _] => if (tyElem P (ts.getD 0 0)).isSome = true ∧ 0 < ts.size then some (.int .i64 es.length) else none
  | .min, [.int k a, .int _ b] => some (.int k (if b < a then b else a))
  | .max, [.int k a, .int _ b] => some (.int k (if a < b then b else a))
  | .min, [.int k a, .int _ b, .int _ c] => some (.int k (if c < (if b < a then b else a) then c else (if b < a then b else a)))
  | .max, [.int k a, .int _ b, .int _ c] => some (.int k (if (if a < b then b else a) < c then c else (if a < b then b else a)))
  | .min, [.int k a, .int _ b, .int _ c, .int _ d] => some (.int k (min4 a b c d))
  | .max, [.int k a, .int _ b, .int _ c, .int _ d] => some (.int k (max4 a b c d))
  | _, _ => none

/-- The value of a quiet operation. -/
def aquiet (P : Program) (e : Operand → AV) (σ : Store) (op : Op) : Option AV :=
  match op with
  | .move x => some (e x)
  | .assign x => some (e x)
  | .pick c a b => match e c with
    | .bool t => some (if t then e a else e b)
    | _ => none
  | .load t a => aload P σ t (e a)
  | .fieldAddr s x f => afieldAddr P s (e x) f
  | .field s x f => afield P s (e x) f
  | .indexAddr t x i => aindexAddr P t (e x) (e i)
  | .index t x i => aindex P t (e x) (e i)
  | .build t parts => abuild P t (parts.toList.map fun p => (p.1, e p.2))
  | .makeFunc f first captured => some (.fn f (first.toList.map e) (captured.toList.map e))
  | .makeInterface t x => if tyIface P t = some false then some (.ifc t (e x)) else none
  | .extract t i => match e t with
    | .tup vs => vs[i]?
    | _ => none
  | .nilCheck x => match e x with
    | .ptr n i => some (.ptr n i)
    | .cptr cs => some (.cptr cs)
    | _ => none
  | .binOp op t x y _ => abin P op t x y (e x) (e y)
  | .unOp op _ x => aun op (e x)
  | .convert s d x => aconv P s d (e x)
  | .slice t x lo hi mx => aslice P t (e x) (lo.map e) (hi.map e) (mx.map e)
  | .call c => match c.callee with
    | .builtin b => abuiltin P b c.argTypes (c.args.toList.map e)
    | _ => none
  | _ => none

section
variable {P : Program} {ρ : Names} {M : Mem} {σ : Store} {w : World}

theorem tyInt_run {t : TypeId} {k : IntKind} (h : tyInt P t = some k) : P.underlying t = some (.int k) := by
  unfold tyInt at h; split at h
  · rename_i hd; injection h with h; subst h; exact hd
  · cases h

theorem aint_sound {op : BinOp} {t : TypeId} {k k' : IntKind} {a b : Int} {v : AV} (h : aint op k k' a b = some v) : ∃ y : Value, (binOp op t (.int k a) (.int k' b)).run P w = .ok y w ∧ VR ρ M v y := by
  cases op <;> simp only [aint] at h <;> split at h <;> first | (cases h; done) | skip
  all_goals (rename_i hc; injection h with h; subst h)
  all_goals first
    | (refine ⟨_, ?_, .int _ _⟩; simp only [binOp]; rw [shift_shl _ _ _ _ hc.1 hc.2]; rfl)
    | (refine ⟨_, ?_, .int _ _⟩; simp only [binOp]; rw [shift_shr _ _ _ _ hc.1 hc.2]; rfl)
    | (obtain ⟨rfl, hb⟩ := hc; refine ⟨_, ?_, .int _ _⟩; simp [binOp, Op.intDiv, hb]; done)
    | (subst hc; refine ⟨_, ?_, .int _ _⟩; simp [binOp, Op.intArith]; done)
    | (subst hc; refine ⟨_, ?_, .int _ _⟩; simp [binOp, intBits_and, intBits_or, intBits_xor, intBits_andNot]; done)
    | (subst hc; refine ⟨_, ?_, .bool _⟩; simp [binOp, Op.intCmp]; done)

theorem astr_sound {op : BinOp} {t : TypeId} {a b : ByteArray} {v : AV} (h : astr op a b = some v) : ∃ y : Value, (binOp op t (.string a) (.string b)).run P w = .ok y w ∧ VR ρ M v y := by
  have he : (a == b) = (a.toList == b.toList) := beq_toListBytes a b
  cases op <;> simp only [astr] at h <;> first | (cases h; done) | skip
  case add =>
    split at h
    · rename_i hc
      injection h with h; subst h
      have : ¬ ((a.size + b.size : Nat) : Int) > IntKind.i64.max := by rw [IntKind.max_i64]; omega
      exact ⟨.string (a ++ b), by simp only [binOp, Op.stringOp]; rw [if_neg this]; rfl, .str _⟩
    · cases h
  all_goals (injection h with h; subst h; refine ⟨_, ?_, .bool _⟩; simp [binOp, Op.stringOp, he])

theorem aguard_sound {op : BinOp} {t : TypeId} {xo yo : Operand} {x y : AV} {x' y' : Value} (hx : VR ρ M x x') (hy : VR ρ M y y') (h : aguard P t xo yo x y = true) :
    (eqGuard op t xo yo x' y').run P w = .ok () w := by
  unfold aguard at h
  split at h
  all_goals first
    | (cases h; done)
    | (cases hx; simp [eqGuard_at_bool, eqGuard_at_pointer, eqGuard_at_map, eqGuard_at_func, eqGuard_at_nilFunc, eqGuard_at_iface]; done)
    | skip
  · cases hx; cases hy; simp [eqGuard_nil_iface]
  · cases hx; cases hy
    cases xo <;> cases yo <;> simp [isConst] at h <;> simp [eqGuard_nil_constR, eqGuard_nil_constL]
  · cases hx; cases hy
    exact run_eqGuard_agg w _ _ _ _ _ _ (by simpa using h)

theorem abin_sound {op : BinOp} {t : TypeId} {xo yo : Operand} {x y v : AV} {x' y' : Value} (hx : VR ρ M x x') (hy : VR ρ M y y') (h : abin P op t xo yo x y = some v) :
    ∃ z : Value, (do eqGuard op t xo yo x' y'; binOp op t x' y' : Sem Value).run P w = .ok z w ∧ VR ρ M v z := by
  unfold abin at h
  split at h
  · cases hx; cases hy
    obtain ⟨z, hz, hv⟩ := aint_sound (P := P) (ρ := ρ) (M := M) (w := w) (t := t) h
    exact ⟨z, by simp [eqGuard_at_int, hz], hv⟩
  · cases hx; cases hy
    obtain ⟨z, hz, hv⟩ := astr_sound (P := P) (ρ := ρ) (M := M) (w := w) (t := t) h
    exact ⟨z, by simp [eqGuard_at_string, hz], hv⟩
  · rename_i sz es c sz' es'
    split at h
    · rename_i hte
      obtain ⟨e, hte⟩ := Option.isSome_iff_exists.1 hte
      have hu := tyElem_run hte
      have hy0 : y' = .slice none 0 0 := by
        cases hy with
        | slnil _ => rfl
        | slz _ h => rcases h with h | h <;> cases h
        | sl _ _ hcc _ _ _ => exact absurd rfl hcc.2
      subst hy0
      obtain ⟨a, n, m, hx', hb⟩ : ∃ a n m, x' = .slice a n m ∧ VR ρ M (slNil es c) (.bool a.isNone) := by
        cases hx with
        | slnil hcc =>
          refine ⟨none, 0, 0, rfl, ?_⟩
          rcases hcc with rfl | rfl | rfl
          · exact .anyb _
          · exact .anyb _
          · exact .bool _
        | slz a hcc =>
          refine ⟨some a, 0, 0, rfl, ?_⟩
          rcases hcc with rfl | rfl
          · exact .anyb _
          · exact .anyb _
        | sl q1 q2 hcc q4 q5 q6 =>
          refine ⟨_, _, _, rfl, ?_⟩
          cases c with
          | nil => exact absurd rfl hcc.2
          | tok n => exact .bool _
          | unk => simp only [slNil]; split
                   · exact .anyb _
                   · exact .bool _
          | exact => simp only [slNil]; split
                     · exact .anyb _
                     · exact .bool _
      subst hx'
      have hr := run_equal_slice_nil (P := P) w t e a n m hu
      split at h
      · injection h with h; subst h
        exact ⟨.bool a.isNone, by simp [eqGuard_at_slice, binOp, hr], hb⟩
      · injection h with h; subst h
        refine ⟨.bool (!a.isNone), by simp [eqGuard_at_slice, binOp, hr], ?_⟩
        revert hb; generalize a.isNone = bb; unfold slNil
        split
        · intro hb; cases hb; exact .bool _
        · intro hb; cases hb; exact .bool _
        · split
          · intro hb; exact .anyb _
          · intro hb; cases hb; exact .bool _
      · cases h
    · cases h
  · split at h
    · rename_i hn1 hn2 hg
      have hgr := aguard_sound (w := w) (op := op) hx hy hg
      have key : ∀ r, aeq P 9 t x y = some r → (Op.equal t x' y').run P w = .ok r w := fun r hr => aeq_sound 9 10000 t x y r x' y' (by omega) hx hy hr
      split at h
      · cases hr : aeq P 9 t x y with
        | none => simp [hr] at h
        | some r =>
          simp [hr] at h; subst h
          refine ⟨.bool r, ?_, .bool r⟩
          have hb : binOp .eql t x' y' = (do pure (.bool (← Op.equal t x' y')) : Sem Value) := by
            unfold aguard at hg
            split at hg <;> first | (cases hg; done) | (cases hx <;> cases hy <;> simp [binOp]; done) | (cases hx; cases hy <;> simp [binOp]; done) | (cases hx; cases hy; simp [binOp])
          simp only [Sem.run_bind, hgr, Result.andThen_ok, hb, key r hr, Sem.run_pure]
      · cases hr : aeq P 9 t x y with
        | none => simp [hr] at h
        | some r =>
          simp [hr] at h; subst h
          refine ⟨.bool (!r), ?_, .bool _⟩
          have hb : binOp .neq t x' y' = (do pure (.bool (!(← Op.equal t x' y'))) : Sem Value) := by
            unfold aguard at hg
            split at hg <;> first | (cases hg; done) | (cases hx <;> cases hy <;> simp [binOp]; done) | (cases hx; cases hy <;> simp [binOp]; done) | (cases hx; cases hy; simp [binOp])
          simp only [Sem.run_bind, hgr, Result.andThen_ok, hb, key r hr, Sem.run_pure]
      · cases h
    · cases h

theorem aun_sound {op : UnOp} {x v : AV} {x' : Value} (hx : VR ρ M x x') (h : aun op x = some v) : ∃ z : Value, (Op.unary op x').run P w = .ok z w ∧ VR ρ M v z := by
  unfold aun at h
  split at h
  · injection h with h; subst h; cases hx
    refine ⟨_, ?_, .int _ _⟩; simp [unary_neg, Op.intArith]
  · injection h with h; subst h; cases hx
    refine ⟨_, ?_, .bool _⟩; simp [unary_not]
  · injection h with h; subst h; cases hx
    refine ⟨_, ?_, .int _ _⟩; simp [unary_xor, intBits_xor]
  · cases h

theorem aconv_sound {s d : TypeId} {x v : AV} {x' : Value} (hx : VR ρ M x x') (h : aconv P s d x = some v) : ∃ z : Value, (convert s d x').run P w = .ok z w ∧ VR ρ M v z := by
  unfold aconv at h
  split at h
  · rename_i k n
    split at h
    · rename_i k' hk
      split at h
      · rename_i hs
        injection h with h; subst h; cases hx
        obtain ⟨ds, hds⟩ := Option.isSome_iff_exists.1 hs
        refine ⟨_, ?_, .int _ _⟩; simp [convert, run_underlying hds, run_underlying (tyInt_run hk), Conv.intToInt]
      · cases h
    · cases h
  · rename_i s'
    split at h
    · rename_i hc
      injection h with h; subst h; cases hx
      obtain ⟨ds, hds⟩ := Option.isSome_iff_exists.1 hc.1
      exact ⟨.string s', by simp [convert, run_underlying hds, run_underlying (tyStr_run hc.2)], .str _⟩
    · cases h
  · cases h


theorem abound_sound {x : Option AV} {x' : Option Value} {d y n : Nat} {code : BoundsCode} (hx : x.isSome = x'.isSome) (hv : ∀ a b, x = some a → x' = some b → VR ρ M a b) (h : abound x d = some n) (hn : n ≤ y) :
    (x = none ∧ x' = none ∧ n = d) ∨ ∃ v, x' = some v ∧ (Instr.sliceBound v y code).run P w = .ok n w := by
  unfold abound at h
  split at h
  · injection h with h; subst h
    cases x' with
    | none => exact .inl ⟨rfl, rfl, rfl⟩
    | some _ => simp at hx
  · rename_i k i
    cases x' with
    | none => simp at hx
    | some v =>
      split at h
      · rename_i h0
        injection h with h; subst h
        have := hv _ _ rfl rfl
        cases this
        exact .inr ⟨_, rfl, run_sliceBound _ _ _ _ _ h0 (by omega)⟩
      · cases h
  · cases h

theorem aslice_sound {t : TypeId} {x v : AV} {x' : Value} {lo hi mx : Option AV} {lo' hi' mx' : Option Value} (hx : VR ρ M x x')
    (hl : lo.isSome = lo'.isSome ∧ ∀ a b, lo = some a → lo' = some b → VR ρ M a b) (hh : hi.isSome = hi'.isSome ∧ ∀ a b, hi = some a → hi' = some b → VR ρ M a b)
    (hm : mx.isSome = mx'.isSome ∧ ∀ a b, mx = some a → mx' = some b → VR ρ M a b) (h : aslice P t x lo hi mx = some v) :
    ∃ z : Value, (Instr.sliceAt t x' lo' hi' mx').run P w = .ok z w ∧ VR ρ M v z := by
  unfold aslice at h
  split at h
  · rename_i s
    split at h
    · rename_i l hn hlo hhi
      split at h
      · rename_i hc
        obtain ⟨hts, hmn, hle, hhs⟩ := hc
        injection h with h; subst h
        cases hx
        have hmx : mx' = none := by
          have := hm.1; cases mx' <;> simp_all
        refine ⟨.string (s.extract l hn), ?_, .str _⟩
        have e1 := abound_sound (P := P) (w := w) (code := .sliceAlen) (y := s.size) hh.1 hh.2 hhi hhs
        have e2 := abound_sound (P := P) (w := w) (code := .sliceB) (y := hn) hl.1 hl.2 hlo hle
        have hu := tyStr_run hts
        subst hmx
        rcases e1 with ⟨-, rfl, rfl⟩ | ⟨v1, rfl, r1⟩ <;> rcases e2 with ⟨-, rfl, rfl⟩ | ⟨v2, rfl, r2⟩ <;>
          simp [Instr.sliceAt, Instr.slice, run_underlying hu, Instr.sliceBounds, *]
      · cases h
    · cases h
  · rename_i sz es c
    split at h
    · rename_i l hn e hlo hhi hte
      split at h
      · rename_i hc
        obtain ⟨hsz, hsome, hle, hhe⟩ := hc
        obtain ⟨k, hk⟩ := Option.isSome_iff_exists.1 hsome
        have hu := tyElem_run hte
        -- the machine's side: what the bounds come to
        have e2 := abound_sound (P := P) (w := w) (code := if mx'.isSome then .slice3C else .sliceB) (y := hn) hl.1 hl.2 hlo hle
        have hnil : ∀ {k' : Nat}, ∀ e ∈ ((es.take hn).drop l), e ∈ es := fun {k'} e he => List.mem_of_mem_take (List.mem_of_mem_drop he)
        have hlen : ((es.take hn).drop l).length = hn - l := by simp; omega
        -- the new value, given the machine's numbers
        have val : ∀ (b o cap m : Nat) (c' : Cap), x' = .slice (some ⟨b, o, none⟩) es.length cap → hn ≤ m → m ≤ cap → (c' = .exact → m = hn) ∧ c' ≠ .nil →
            (∀ n, c' = .tok n → ρ n = some ⟨b, o + hn * sz, (m - hn) * sz⟩ ∧ l < m) →
            VR ρ M (.sl sz ((es.take hn).drop l) c') (.slice (some (if m = l then (⟨b, o, none⟩ : Addr) else (⟨b, o, none⟩ : Addr).add (l * k))) (hn - l) (m - l)) := by
          intro b o cap m c' hx' h1 h2 h3 h4
          subst hx'
          cases hx with
          | slz a hcc =>
            have h00 : hn = 0 := by simpa using hhe
            have hl0 : l = 0 := by omega
            subst h00; subst hl0
            have hm0 : m = 0 := by omega
            subst hm0
            have hnt : ∀ n, c' ≠ .tok n := fun n e => by have := (h4 n e).2; omega
            refine (show VR ρ M (.sl sz [] c') (.slice (some ⟨b, o, none⟩) 0 0) from .slz _ ?_) |> fun h => by simpa using h
            cases c' with
            | unk => exact .inl rfl
            | exact => exact .inr rfl
            | nil => exact absurd rfl h3.2
            | tok n => exact absurd rfl (hnt n)
          | sl hsz' hcap hcc ht q1 q2 =>
            by_cases hml : m = l
            · have h0 : hn = l := by omega
              have hem : ((es.take hn).drop l) = [] := List.eq_nil_of_length_eq_zero (by omega)
              rw [if_pos hml, hem, show hn - l = ([] : List (List AV)).length from by simp; omega]
              refine .sl (by simp) (by simp) ⟨fun _ => by simp; omega, h3.2⟩ (fun n hn' => ?_) (by simp) (by simp)
              have := (h4 n hn').2; omega
            · rw [if_neg hml, Addr.add_mid, ← hlen]
              have hkz : es = [] ∨ k = sz := by
                rcases hsz with h | h
                · rw [hk] at h; injection h with h; exact .inr h
                · exact .inl h
              rcases hkz with hes | hkz
              · have hl0 : l = 0 := by rw [hes] at hhe; simp at hhe; omega
                subst hl0
                have h0 : hn = 0 := by rw [hes] at hhe; simpa using hhe
                subst h0
                have hem : ((es.take 0).drop 0) = [] := by simp
                rw [hem, Nat.zero_mul, Nat.add_zero]
                refine .sl (by simp) (by simp) ⟨fun e => by have := h3.1 e; simp; omega, h3.2⟩ (fun n hn' => ?_) (by simp) (by simp)
                have := (h4 n hn').1
                simpa using this
              · subst hkz
                refine .sl (fun e he => hsz' e (hnil (k' := 0) e he)) (by rw [hlen]; omega) ⟨fun e => by have := h3.1 e; rw [hlen]; omega, h3.2⟩ (fun n hn' => ?_) (fun i j e v he hv => ?_) (fun i j e v y he hv hy => ?_)
                · have := (h4 n hn').1
                  rw [this, hlen]
                  congr 2
                  · rw [Nat.add_assoc, ← Nat.add_mul]; congr 2; omega
                  · congr 1; omega
                · rw [List.getElem?_drop, List.getElem?_take] at he
                  split at he
                  · have := q1 _ j e v he hv
                    rwa [show o + l * k + i * k + j = o + (l + i) * k + j by rw [Nat.add_mul]; omega]
                  · cases he
                · rw [List.getElem?_drop, List.getElem?_take] at he
                  split at he
                  · exact q2 _ j e v y he hv (by rwa [show o + (l + i) * k + j = o + l * k + i * k + j by rw [Nat.add_mul]; omega])
                  · cases he
        have valnil : x' = .slice none 0 0 → es = [] → l = 0 ∧ hn = 0 := fun _ he => by rw [he] at hhe; simp at hhe; omega
        split at h
        · injection h with h; subst h
          have hmx : mx' = none := by have := hm.1; cases mx' <;> simp_all
          subst hmx
          cases hx with
          | slnil hcc =>
            obtain ⟨h1, h2⟩ := valnil rfl rfl
            subst h1; subst h2
            refine ⟨.slice none 0 0, ?_, ?_⟩
            · have e1 := abound_sound (P := P) (w := w) (code := .sliceAcap) (y := 0) hh.1 hh.2 hhi (Nat.le_refl _)
              simp only [Option.isSome_none, Bool.false_eq_true, if_false] at e2
              rcases e1 with ⟨-, rfl, -⟩ | ⟨v1, rfl, r1⟩
              · rcases e2 with ⟨-, rfl, -⟩ | ⟨v2, rfl, r2⟩
                · simp [Instr.sliceAt, Instr.slice, run_underlying hu, Instr.sliceBounds, tySize_run hk]
                · simp [Instr.sliceAt, Instr.slice, run_underlying hu, Instr.sliceBounds, tySize_run hk, r2]
              · rcases e2 with ⟨-, rfl, -⟩ | ⟨v2, rfl, r2⟩
                · simp [Instr.sliceAt, Instr.slice, run_underlying hu, Instr.sliceBounds, tySize_run hk, r1]
                · simp [Instr.sliceAt, Instr.slice, run_underlying hu, Instr.sliceBounds, tySize_run hk, r1, r2]
            · simp only [List.take_nil, List.drop_nil]
              refine .slnil ?_
              rcases hcc with rfl | rfl | rfl <;> simp
          | slz a hcc =>
            have h00 : hn = 0 := by simpa using hhe
            have hl0 : l = 0 := by omega
            subst h00; subst hl0
            have e1 := abound_sound (P := P) (w := w) (code := .sliceAcap) (y := 0) hh.1 hh.2 hhi (Nat.le_refl _)
            refine ⟨.slice (some a) 0 0, ?_, ?_⟩
            · simp only [Option.isSome_none, Bool.false_eq_true, if_false] at e2
              rcases e1 with ⟨-, rfl, -⟩ | ⟨v1, rfl, r1⟩
              · rcases e2 with ⟨-, rfl, -⟩ | ⟨v2, rfl, r2⟩
                · simp [Instr.sliceAt, Instr.slice, run_underlying hu, Instr.sliceBounds, tySize_run hk]
                · simp [Instr.sliceAt, Instr.slice, run_underlying hu, Instr.sliceBounds, tySize_run hk, r2]
              · rcases e2 with ⟨-, rfl, -⟩ | ⟨v2, rfl, r2⟩
                · simp [Instr.sliceAt, Instr.slice, run_underlying hu, Instr.sliceBounds, tySize_run hk, r1]
                · simp [Instr.sliceAt, Instr.slice, run_underlying hu, Instr.sliceBounds, tySize_run hk, r1, r2]
            · simp only [List.take_nil, List.drop_nil]
              refine .slz a ?_
              rcases hcc with rfl | rfl <;> simp
          | sl hsz' hcap hcc ht q1 q2 =>
            rename_i b o cap
            have e1 := abound_sound (P := P) (w := w) (code := .sliceAcap) (y := cap) hh.1 hh.2 hhi (by omega)
            refine ⟨_, ?_, val b o cap cap _ rfl (by omega) (Nat.le_refl _) ⟨fun e => ?_, fun e => ?_⟩ (fun n e => ?_)⟩
            · simp only [Option.isSome_none, Bool.false_eq_true, if_false] at e2
              rcases e1 with ⟨-, rfl, q1⟩ | ⟨v1, rfl, r1⟩
              · rcases e2 with ⟨-, rfl, q2⟩ | ⟨v2, rfl, r2⟩
                · (simp [Instr.sliceAt, Instr.slice, run_underlying hu, Instr.sliceBounds, tySize_run hk, q1, q2]; split <;> rfl)
                · (simp [Instr.sliceAt, Instr.slice, run_underlying hu, Instr.sliceBounds, tySize_run hk, q1 ▸ r2, q1]; split <;> rfl)
              · rcases e2 with ⟨-, rfl, q2⟩ | ⟨v2, rfl, r2⟩
                · (simp [Instr.sliceAt, Instr.slice, run_underlying hu, Instr.sliceBounds, tySize_run hk, r1, q2]; split <;> rfl)
                · (simp [Instr.sliceAt, Instr.slice, run_underlying hu, Instr.sliceBounds, tySize_run hk, r1, r2]; split <;> rfl)
            · split at e
              · rename_i hne
                split at e
                · split at e <;> cases e
                · rw [hne]; exact hcc.1 e
              · cases e
            · split at e
              · split at e
                · split at e <;> cases e
                · exact hcc.2 e
              · cases e
            · split at e
              · rename_i hne
                split at e
                · rename_i n'
                  split at e
                  · rename_i hlt
                    injection e with e; subst e
                    exact ⟨by rw [ht n' rfl, hne], by omega⟩
                  · cases e
                · rename_i hno
                  exact absurd e (hno n)
              · cases e
        · rename_i m0
          split at h
          · rename_i m hmb
            split at h
            · rename_i hcond
              obtain ⟨his, rfl⟩ := hcond
              injection h with h; subst h
              have hmx : ∃ mv, mx' = some mv := by have := hm.1; cases mx' with | none => simp at this | some mv => exact ⟨mv, rfl⟩
              obtain ⟨mv, rfl⟩ := hmx
              obtain ⟨hv', rfl⟩ : ∃ hv', hi' = some hv' := by have := hh.1; rw [his] at this; cases hi' with | none => simp at this | some hv' => exact ⟨hv', rfl⟩
              cases hx with
              | slnil hcc =>
                obtain ⟨h1, h2⟩ := valnil rfl rfl
                subst h1; subst h2
                refine ⟨.slice none 0 0, ?_, ?_⟩
                · have e0 := abound_sound (P := P) (w := w) (code := .slice3Acap) (y := 0) hm.1 hm.2 hmb (Nat.le_refl _)
                  have e1 := abound_sound (P := P) (w := w) (code := .slice3B) (y := 0) hh.1 hh.2 hhi (Nat.le_refl _)
                  rcases e0 with ⟨-, h, -⟩ | ⟨v0, h0, r0⟩
                  · cases h
                  · injection h0 with h0; subst h0
                    rcases e1 with ⟨-, h, -⟩ | ⟨v1, h1, r1⟩
                    · cases h
                    · injection h1 with h1; subst h1
                      simp only [Option.isSome_some, if_true] at e2
                      rcases e2 with ⟨-, rfl, -⟩ | ⟨v2, rfl, r2⟩
                      · simp [Instr.sliceAt, Instr.slice, run_underlying hu, Instr.sliceBounds, tySize_run hk, r0, r1]
                      · simp [Instr.sliceAt, Instr.slice, run_underlying hu, Instr.sliceBounds, tySize_run hk, r0, r1, r2]
                · simp only [List.take_nil, List.drop_nil]; exact .slnil (.inr (.inl rfl))
              | slz a hcc =>
                have h00 : m = 0 := by simpa using hhe
                have hl0 : l = 0 := by omega
                subst h00; subst hl0
                refine ⟨.slice (some a) 0 0, ?_, ?_⟩
                · have e0 := abound_sound (P := P) (w := w) (code := .slice3Acap) (y := 0) hm.1 hm.2 hmb (Nat.le_refl _)
                  have e1 := abound_sound (P := P) (w := w) (code := .slice3B) (y := 0) hh.1 hh.2 hhi (Nat.le_refl _)
                  rcases e0 with ⟨-, h, -⟩ | ⟨v0, h0, r0⟩
                  · cases h
                  · injection h0 with h0; subst h0
                    rcases e1 with ⟨-, h, -⟩ | ⟨v1, h1, r1⟩
                    · cases h
                    · injection h1 with h1; subst h1
                      simp only [Option.isSome_some, if_true] at e2
                      rcases e2 with ⟨-, rfl, -⟩ | ⟨v2, rfl, r2⟩
                      · simp [Instr.sliceAt, Instr.slice, run_underlying hu, Instr.sliceBounds, tySize_run hk, r0, r1]
                      · simp [Instr.sliceAt, Instr.slice, run_underlying hu, Instr.sliceBounds, tySize_run hk, r0, r1, r2]
                · simp only [List.take_nil, List.drop_nil]; exact .slz a (.inr rfl)
              | sl hsz' hcap hcc ht q1 q2 =>
                rename_i b o cap
                have e0 := abound_sound (P := P) (w := w) (code := .slice3Acap) (y := cap) hm.1 hm.2 hmb (by omega)
                have e1 := abound_sound (P := P) (w := w) (code := .slice3B) (y := m) hh.1 hh.2 hhi (by omega)
                refine ⟨_, ?_, val b o cap m .exact rfl (Nat.le_refl _) (by omega) ⟨fun _ => rfl, by simp⟩ (fun n e => by cases e)⟩
                rcases e0 with ⟨-, h, -⟩ | ⟨v0, h0, r0⟩
                · cases h
                · injection h0 with h0; subst h0
                  rcases e1 with ⟨-, h, -⟩ | ⟨v1, h1, r1⟩
                  · cases h
                  · injection h1 with h1; subst h1
                    simp only [Option.isSome_some, if_true] at e2
                    rcases e2 with ⟨-, rfl, q2⟩ | ⟨v2, rfl, r2⟩
                    · (simp [Instr.sliceAt, Instr.slice, run_underlying hu, Instr.sliceBounds, tySize_run hk, r0, r1, q2]; split <;> rfl)
                    · (simp [Instr.sliceAt, Instr.slice, run_underlying hu, Instr.sliceBounds, tySize_run hk, r0, r1, r2]; split <;> rfl)
            · cases h
          · cases h
      · cases h
    · cases h
  · cases h


theorem abuild_sound {t : TypeId} {v : AV} {parts : List (Nat × AV)} {parts' : Array (Nat × Value)} (hl : parts.length = parts'.size)
    (hp : ∀ (i : Nat) (p : Nat × AV) (q : Nat × Value), parts[i]? = some p → parts'[i]? = some q → p.1 = q.1 ∧ VR ρ M p.2 q.2) (h : abuild P t parts = some v) :
    ∃ z : Value, (Instr.build t parts').run P w = .ok z w ∧ VR ρ M v z := by
  unfold abuild at h
  split at h
  · rename_i z pl hz hpl
    cases hf : afill (placeOf pl) z parts with
    | none => simp [hf] at h
    | some out =>
      simp [hf] at h; subst h
      have hz' := hz
      unfold tyZero at hz
      cases hi : P.info? t with
      | none => simp [hi] at hz
      | some it =>
        cases hzz : it.zero with
        | none => simp [hi, hzz] at hz
        | some zv =>
          simp [hi, hzz] at hz
          subst hz
          obtain ⟨ys, hys, hvs⟩ := afill_sound (ρ := ρ) (M := M) parts parts'.toList _ out zv.cells.toList (by simpa using hl) (fun i p q h1 h2 => hp i p q h1 (by simpa using h2)) (by simpa using VRs.ofCells ρ M zv.cells.toList) hf
          refine ⟨.agg ys.toArray, run_build w t parts' ys.toArray ?_, VR.agg_iff.2 ⟨ys, rfl, hvs⟩⟩
          simp only [Array.toArray_toList] at hys
          unfold tyPlaces at hpl
          unfold Program.built
          split at hpl
          · rename_i fs hu
            cases hm : fs.toList.mapM (fun f => (P.info? f.type).map fun i => (f.offset, i.size)) with
            | none => simp [hm] at hpl
            | some pls =>
              simp only [hm, Option.map_some, Option.some.injEq] at hpl; subst hpl
              simp only [hi, hu, hzz, hm]
              simpa [placeOf] using hys
          · rename_i n e hu
            cases he : P.info? e with
            | none => simp [tySize, he] at hpl
            | some ie =>
              simp only [tySize, he, Option.map_some, Option.some.injEq] at hpl; subst hpl
              simp only [hi, hu, hzz, he]
              simpa [placeOf] using hys
          · cases hpl
  · cases h

theorem abuiltin_sound {b : Builtin} {ts : Array TypeId} {t : TypeId} {xs : List AV} {xs' : Array Value} {v : AV} (hx : VRs ρ M xs xs'.toList) (h : abuiltin P b ts xs = some v) :
    ∃ z : Value, (∀ cst, (builtin b ts t cst xs').run P w = .ok (.value z) w) ∧ VR ρ M v z := by
  have hlist : ∀ l : List Value, xs'.toList = l → xs' = l.toArray := fun l h => by rw [← h]
  unfold abuiltin at h
  split at h
  · rename_i s
    split at h
    · rename_i hc
      injection h with h; subst h
      obtain ⟨y, hl⟩ : ∃ y, xs'.toList = [y] := by have := hx.len; match xs'.toList, this with | [y], _ => exact ⟨y, rfl⟩
      rw [hl] at hx
      have := hx.head; cases this
      rw [hlist _ hl]
      obtain ⟨t0, h0, e0⟩ : ∃ t0, ts[0]? = some t0 ∧ ts.getD 0 0 = t0 := ⟨ts[0]'hc.2, Array.getElem?_eq_getElem hc.2, by simp [Array.getD, hc.2]⟩
      rw [e0] at hc
      exact ⟨.int .i64 s.size, fun cst => by simp [builtin, Builtin.len_, h0, run_underlying (tyStr_run hc.1), goInt], .int _ _⟩
    · cases h
  · rename_i sz es c
    split at h
    · rename_i hc
      injection h with h; subst h
      obtain ⟨y, hl⟩ : ∃ y, xs'.toList = [y] := by have := hx.len; match xs'.toList, this with | [y], _ => exact ⟨y, rfl⟩
      rw [hl] at hx
      have hv := hx.head
      rw [hlist _ hl]
      obtain ⟨t0, h0, e0⟩ : ∃ t0, ts[0]? = some t0 ∧ ts.getD 0 0 = t0 := ⟨ts[0]'hc.2, Array.getElem?_eq_getElem hc.2, by simp [Array.getD, hc.2]⟩
      rw [e0] at hc
      obtain ⟨e, he⟩ := Option.isSome_iff_exists.1 hc.1
      refine ⟨.int .i64 es.length, fun cst => ?_, .int _ _⟩
      cases hv with
      | slnil _ => simp [builtin, Builtin.len_, h0, run_underlying (tyElem_run he), goInt]
      | slz _ _ => simp [builtin, Builtin.len_, h0, run_underlying (tyElem_run he), goInt]
      | sl _ _ _ _ _ _ => simp [builtin, Builtin.len_, h0, run_underlying (tyElem_run he), goInt]
    · cases h
  · injection h with h; subst h
    obtain ⟨y1, y2, hl⟩ : ∃ y1 y2, xs'.toList = [y1, y2] := by have := hx.len; match xs'.toList, this with | [y1, y2], _ => exact ⟨y1, y2, rfl⟩
    rw [hl] at hx
    have h1 := hx.head; have h2 := hx.tail.head; cases h1; cases h2
    rw [hlist _ hl]
    refine ⟨_, fun cst => ?_, .int _ _⟩
    simp [builtin, Builtin.min_, Builtin.min2]
  · injection h with h; subst h
    obtain ⟨y1, y2, hl⟩ : ∃ y1 y2, xs'.toList = [y1, y2] := by have := hx.len; match xs'.toList, this with | [y1, y2], _ => exact ⟨y1, y2, rfl⟩
    rw [hl] at hx
    have h1 := hx.head; have h2 := hx.tail.head; cases h1; cases h2
    rw [hlist _ hl]
    refine ⟨_, fun cst => ?_, .int _ _⟩
    simp [builtin, Builtin.max_, Builtin.max2]
  · injection h with h; subst h
    obtain ⟨y1, y2, y3, hl⟩ : ∃ y1 y2 y3, xs'.toList = [y1, y2, y3] := by have := hx.len; match xs'.toList, this with | [y1, y2, y3], _ => exact ⟨y1, y2, y3, rfl⟩
    rw [hl] at hx
    have h1 := hx.head; have h2 := hx.tail.head; have h3 := hx.tail.tail.head; cases h1; cases h2; cases h3
    rw [hlist _ hl]
    refine ⟨_, fun cst => ?_, .int _ _⟩
    simp [builtin, Builtin.min_, Builtin.min2]
  · injection h with h; subst h
    obtain ⟨y1, y2, y3, hl⟩ : ∃ y1 y2 y3, xs'.toList = [y1, y2, y3] := by have := hx.len; match xs'.toList, this with | [y1, y2, y3], _ => exact ⟨y1, y2, y3, rfl⟩
    rw [hl] at hx
    have h1 := hx.head; have h2 := hx.tail.head; have h3 := hx.tail.tail.head; cases h1; cases h2; cases h3
    rw [hlist _ hl]
    refine ⟨_, fun cst => ?_, .int _ _⟩
    simp [builtin, Builtin.max_, Builtin.max2]
  · injection h with h; subst h
    obtain ⟨y1, y2, y3, y4, hl⟩ : ∃ y1 y2 y3 y4, xs'.toList = [y1, y2, y3, y4] := by have := hx.len; match xs'.toList, this with | [y1, y2, y3, y4], _ => exact ⟨y1, y2, y3, y4, rfl⟩
    rw [hl] at hx
    have h1 := hx.head; have h2 := hx.tail.head; have h3 := hx.tail.tail.head; have h4 := hx.tail.tail.tail.head; cases h1; cases h2; cases h3; cases h4
    rw [hlist _ hl]
    refine ⟨_, fun cst => ?_, .int _ _⟩
    simp [builtin, Builtin.min_, Builtin.min2, min4]
  · injection h with h; subst h
    obtain ⟨y1, y2, y3, y4, hl⟩ : ∃ y1 y2 y3 y4, xs'.toList = [y1, y2, y3, y4] := by have := hx.len; match xs'.toList, this with | [y1, y2, y3, y4], _ => exact ⟨y1, y2, y3, y4, rfl⟩
    rw [hl] at hx
    have h1 := hx.head; have h2 := hx.tail.head; have h3 := hx.tail.tail.head; have h4 := hx.tail.tail.tail.head; cases h1; cases h2; cases h3; cases h4
    rw [hlist _ hl]
    refine ⟨_, fun cst => ?_, .int _ _⟩
    simp [builtin, Builtin.max_, Builtin.max2, max4]
  · cases h

theorem VRs.map_ops {e : Operand → AV} {r : Operand → Value} (he : ∀ x, VR ρ M (e x) (r x)) (l : List Operand) : VRs ρ M (l.map e) (l.map r) :=
  ⟨by simp, fun i v x hv hx => by
    rw [List.getElem?_map] at hv hx
    cases hl : l[i]? with
    | none => simp [hl] at hv
    | some o => simp [hl] at hv hx; subst hv; subst hx; exact he o⟩

/-- The machine does the same. -/
theorem aquiet_sound {e : Operand → AV} {r : Operand → Value} {o : Oper} {v : AV} (hr : Rel ρ M σ w) (he : ∀ x, VR ρ M (e x) (r x)) (h : aquiet P e σ o.op = some v) :
    ∃ z : Value, (execOp r o).run P w = .ok (.value z) w ∧ VR ρ M v z := by
  have optH : ∀ x : Option Operand, (x.map e).isSome = (x.map r).isSome ∧ ∀ a b, x.map e = some a → x.map r = some b → VR ρ M a b := fun x => by
    cases x with
    | none => exact ⟨rfl, fun a b h => by simp at h⟩
    | some o => exact ⟨rfl, fun a b h1 h2 => by simp at h1 h2; subst h1; subst h2; exact he o⟩
  unfold aquiet at h
  unfold execOp
  split at h
  · injection h with h; subst h; rename_i x hx; exact ⟨r x, by simp [hx], he x⟩
  · injection h with h; subst h; rename_i x hx; exact ⟨r x, by simp [hx], he x⟩
  · rename_i c a b ho
    split at h
    · rename_i t ht
      injection h with h; subst h
      have hc := he c; rw [ht] at hc
      generalize hrc : r c = rc at hc
      cases hc
      refine ⟨if t then r a else r b, ?_, ?_⟩
      · simp [ho, hrc, asBool]
      · cases t <;> simp [he]
    · cases h
  · rename_i t a ho
    obtain ⟨z, hz, hv⟩ := aload_sound (P := P) hr (he a) h
    exact ⟨z, by simp [ho, hz], hv⟩
  · rename_i t a f ho
    obtain ⟨z, hz, hv⟩ := afieldAddr_sound (P := P) (w := w) (he a) h
    exact ⟨z, by simp [ho, hz], hv⟩
  · rename_i t a f ho
    obtain ⟨z, hz, hv⟩ := afield_sound (P := P) (w := w) (he a) h
    exact ⟨z, by simp [ho, hz], hv⟩
  · rename_i t a i ho
    obtain ⟨z, hz, hv⟩ := aindexAddr_sound (P := P) (w := w) (he a) (he i) h
    exact ⟨z, by simp [ho, hz], hv⟩
  · rename_i t a i ho
    obtain ⟨z, hz, hv⟩ := aindex_sound (P := P) (w := w) (he a) (he i) h
    exact ⟨z, by simp [ho, hz], hv⟩
  · rename_i t parts ho
    obtain ⟨z, hz, hv⟩ := abuild_sound (P := P) (w := w) (parts' := parts.map fun (i, x) => (i, r x)) (by simp) (fun i p q hp hq => by
      simp only [List.getElem?_map, Array.getElem?_map] at hp hq
      cases hl : parts.toList[i]? with
      | none => simp [hl] at hp
      | some y =>
        have hl' : parts[i]? = some y := by simpa using hl
        simp [hl] at hp; simp [hl'] at hq; subst hp; subst hq; exact ⟨rfl, he _⟩) h
    exact ⟨z, by simp [ho, hz], hv⟩
  · rename_i f first cap ho
    injection h with h; subst h
    refine ⟨.func f (first.map r) (cap.map r), by simp [ho, Instr.makeFunc], ?_⟩
    have h1 := VRs.map_ops he first.toList
    have h2 := VRs.map_ops he cap.toList
    exact .fn (by simp) (by simp) (fun i v x hv hx => h1.get i v x hv (by rw [List.getElem?_map]; simpa using hx)) (fun i v x hv hx => h2.get i v x hv (by rw [List.getElem?_map]; simpa using hx))
  · rename_i t x ho
    split at h
    · rename_i hi
      injection h with h; subst h
      unfold tyIface at hi
      cases hd : P.underlying t with
      | none => simp [hd] at hi
      | some d =>
        refine ⟨.iface t (r x), ?_, .ifc (he x)⟩
        cases d <;> simp_all [Instr.makeInterface, run_underlying hd]
    · cases h
  · rename_i t i ho
    split at h
    · rename_i vs hvs
      have hx := he t; rw [hvs] at hx
      obtain ⟨xs, hxs, hv⟩ := VR.tup_iff.1 hx
      obtain ⟨z, hz, hvz⟩ := hv.ex h
      exact ⟨z, by simp [ho, hxs, Instr.extract, hz], hvz⟩
    · cases h
  · rename_i x ho
    split at h
    · rename_i n i hx
      injection h with h; subst h
      have hv := he x; rw [hx] at hv
      generalize hrx : r x = rx at hv
      refine ⟨rx, ?_, hv⟩
      cases hv; simp [ho, hrx]
    · rename_i cs hx
      injection h with h; subst h
      have hv := he x; rw [hx] at hv
      generalize hrx : r x = rx at hv
      refine ⟨rx, ?_, hv⟩
      cases hv; simp [ho, hrx]
    · cases h
  · rename_i op t x y yt ho
    obtain ⟨z, hz, hv⟩ := abin_sound (P := P) (w := w) (he x) (he y) h
    exact ⟨z, by simp only [ho]; rw [Sem.run_bind, hz]; rfl, hv⟩
  · rename_i op t x ho
    obtain ⟨z, hz, hv⟩ := aun_sound (P := P) (w := w) (he x) h
    exact ⟨z, by simp [ho, hz], hv⟩
  · rename_i s d x ho
    obtain ⟨z, hz, hv⟩ := aconv_sound (P := P) (w := w) (he x) h
    exact ⟨z, by simp [ho, hz], hv⟩
  · rename_i t x lo hi mx ho
    obtain ⟨z, hz, hv⟩ := aslice_sound (P := P) (w := w) (he x) (optH lo) (optH hi) (optH mx) h
    exact ⟨z, by simp [ho, hz], hv⟩
  · rename_i c ho
    split at h
    · rename_i b hb
      obtain ⟨z, hz, hv⟩ := abuiltin_sound (P := P) (w := w) (t := o.type) (xs' := c.args.map r) (by simpa using VRs.map_ops he c.args.toList) h
      exact ⟨z, by simp [ho, resolve, hb, invoke, hz], hv⟩
    · cases h
  · cases h

end
end Go.Abs
