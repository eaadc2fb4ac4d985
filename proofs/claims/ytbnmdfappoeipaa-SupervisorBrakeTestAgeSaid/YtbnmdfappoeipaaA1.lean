/- Abstract values and their relation to the machine's memory. -/
import Derived.CallsIn
import Derived.Laws.World
import Derived.Laws.Entries
import Derived.Deep.MidRow
set_option linter.unusedVariables false
set_option linter.unusedSimpArgs false
namespace Go.Abs

/-! ### Names of variables -/
inductive Nm where
  | root : Nm
  | sub (n : Nm) (i : Nat) : Nm
  deriving DecidableEq

def Nm.depth : Nm → Nat
  | .root => 0
  | .sub n _ => n.depth + 1

/-- 'n.under m': n is m, or lies below it. -/
def Nm.under : Nm → Nm → Bool
  | .root, m => decide (Nm.root = m)
  | .sub n i, m => decide (Nm.sub n i = m) || n.under m

@[simp] theorem Nm.under_self (n : Nm) : n.under n = true := by cases n <;> simp [Nm.under]
@[simp] theorem Nm.under_sub_self (n : Nm) (i : Nat) : (n.sub i).under n = true := by simp [Nm.under]
theorem Nm.depth_of_under : ∀ {n m : Nm}, n.under m = true → m.depth ≤ n.depth
  | .root, m, h => by simp [Nm.under] at h; subst h; exact Nat.le_refl _
  | .sub n i, m, h => by
    simp [Nm.under] at h
    rcases h with h | h
    · subst h; exact Nat.le_refl _
    · have := Nm.depth_of_under h; simp [Nm.depth]; omega
@[simp] theorem Nm.not_under_sub (n : Nm) (i : Nat) : n.under (n.sub i) = false := by
  cases h : n.under (n.sub i) with
  | false => rfl
  | true => have := Nm.depth_of_under h; simp [Nm.depth] at this; omega
@[simp] theorem Nm.not_under_sub2 (n : Nm) (i j : Nat) : n.under ((n.sub i).sub j) = false := by
  cases h : n.under ((n.sub i).sub j) with
  | false => rfl
  | true => have := Nm.depth_of_under h; simp [Nm.depth] at this; omega
@[simp] theorem Nm.sub_ne_self (n : Nm) (i : Nat) : ¬ (n.sub i = n) := fun h => by
  have := congrArg Nm.depth h; simp [Nm.depth] at this
@[simp] theorem Nm.ne_sub_self (n : Nm) (i : Nat) : ¬ (n = n.sub i) := fun h => by
  have := congrArg Nm.depth h; simp [Nm.depth] at this
@[simp] theorem Nm.sub_sub_ne_self (n : Nm) (i j : Nat) : ¬ ((n.sub i).sub j = n) := fun h => by
  have := congrArg Nm.depth h; simp [Nm.depth] at this; omega
@[simp] theorem Nm.ne_sub_sub_self (n : Nm) (i j : Nat) : ¬ (n = (n.sub i).sub j) := fun h => by
  have := congrArg Nm.depth h; simp [Nm.depth] at this; omega
@[simp] theorem Nm.sub3_ne_self (n : Nm) (i j k : Nat) : ¬ (((n.sub i).sub j).sub k = n) := fun h => by
  have := congrArg Nm.depth h; simp [Nm.depth] at this; omega
@[simp] theorem Nm.ne_sub3_self (n : Nm) (i j k : Nat) : ¬ (n = ((n.sub i).sub j).sub k) := fun h => by
  have := congrArg Nm.depth h; simp [Nm.depth] at this; omega
theorem Nm.under_sub (n : Nm) (i : Nat) (m : Nm) : (n.sub i).under m = (decide (n.sub i = m) || n.under m) := rfl
theorem Nm.under_trans : ∀ {n m k : Nm}, n.under m = true → m.under k = true → n.under k = true
  | .root, m, k, h, h' => by simp [Nm.under] at h; subst h; exact h'
  | .sub n i, m, k, h, h' => by
    simp [Nm.under] at h
    rcases h with h | h
    · subst h; exact h'
    · simp [Nm.under, Nm.under_trans h h']
/-- Two names above one name: one lies below the other. -/
theorem Nm.under_two : ∀ {n m k : Nm}, n.under m = true → n.under k = true → m.under k = true ∨ k.under m = true
  | .root, m, k, h, h' => by simp [Nm.under] at h h'; subst h; subst h'; simp
  | .sub n i, m, k, h, h' => by
    by_cases e : Nm.sub n i = m
    · subst e; exact .inl h'
    · by_cases e' : Nm.sub n i = k
      · subst e'; exact .inr h
      · simp [Nm.under, e] at h; simp [Nm.under, e'] at h'; exact Nm.under_two h h'
theorem Nm.under_sub_disjoint {n m : Nm} {i j : Nat} (h : n.under (m.sub i) = true) (h' : n.under (m.sub j) = true) : i = j := by
  have key : ∀ {a b : Nat}, (m.sub a).under (m.sub b) = true → a = b := by
    intro a b hab
    simp [Nm.under] at hab
    exact hab
  rcases Nm.under_two h h' with h1 | h1
  · exact key h1
  · exact (key h1).symm
theorem Nm.under_of_sub {n m : Nm} {i : Nat} (h : n.under (m.sub i) = true) : n.under m = true := Nm.under_trans h (by simp)

/-! ### Abstract values -/
/-- What is known of the room behind a slice: nothing; that there is none; that the token n stands for it. -/
inductive Cap where
  | unk
  | exact
  | nil
  | tok (n : Nm)

inductive AV where
  | any
  | int (k : IntKind) (n : Int)
  | bool (b : Bool)
  | anyb
  | str (s : ByteArray)
  | nilptr
  | ptr (n : Nm) (i : Nat)
  | cptr (cs : List AV)
  | sl (sz : Nat) (es : List (List AV)) (c : Cap)
  | map (n : Nm)
  | nilmap
  | fn (f : Fn) (first captured : List AV)
  | nilfn
  | ifc (t : TypeId) (v : AV)
  | nilifc
  | agg (cs : List AV)
  | tup (vs : List AV)
  deriving Inhabited

/-- A place in memory: a block, an offset, a number of cells. -/
structure Pl where
  b : Nat
  o : Nat
  k : Nat

abbrev Names := Nm → Option Pl
abbrev Mem := Addr → Option Value

inductive VR (ρ : Names) (M : Mem) : AV → Value → Prop
  | any (x : Value) : VR ρ M .any x
  | int (k : IntKind) (n : Int) : VR ρ M (.int k n) (.int k n)
  | bool (b : Bool) : VR ρ M (.bool b) (.bool b)
  | anyb (b : Bool) : VR ρ M .anyb (.bool b)
  | str (s : ByteArray) : VR ρ M (.str s) (.string s)
  | nilptr : VR ρ M .nilptr (.pointer none)
  | ptr {n : Nm} {i : Nat} {p : Pl} (h : ρ n = some p) : VR ρ M (.ptr n i) (.pointer (some ⟨p.b, p.o + i, none⟩))
  | cptr {cs : List AV} {b o : Nat} (h1 : ∀ (j : Nat) (v : AV), cs[j]? = some v → (M ⟨b, o + j, none⟩).isSome = true)
      (h2 : ∀ (j : Nat) (v : AV) (x : Value), cs[j]? = some v → M ⟨b, o + j, none⟩ = some x → VR ρ M v x) : VR ρ M (.cptr cs) (.pointer (some ⟨b, o, none⟩))
  | slnil {sz : Nat} {c : Cap} (h : c = .unk ∨ c = .exact ∨ c = .nil) : VR ρ M (.sl sz [] c) (.slice none 0 0)
  | slz {sz : Nat} {c : Cap} (a : Addr) (h : c = .unk ∨ c = .exact) : VR ρ M (.sl sz [] c) (.slice (some a) 0 0)
  | sl {sz : Nat} {es : List (List AV)} {c : Cap} {b o cap : Nat} (hsz : ∀ e, e ∈ es → e.length = sz) (hcap : es.length ≤ cap)
      (hc : (c = .exact → cap = es.length) ∧ c ≠ .nil) (ht : ∀ n, c = .tok n → ρ n = some ⟨b, o + es.length * sz, (cap - es.length) * sz⟩)
      (h1 : ∀ (i j : Nat) (e : List AV) (v : AV), es[i]? = some e → e[j]? = some v → (M ⟨b, o + i * sz + j, none⟩).isSome = true)
      (h2 : ∀ (i j : Nat) (e : List AV) (v : AV) (x : Value), es[i]? = some e → e[j]? = some v → M ⟨b, o + i * sz + j, none⟩ = some x → VR ρ M v x) :
      VR ρ M (.sl sz es c) (.slice (some ⟨b, o, none⟩) es.length cap)
  | map {n : Nm} {p : Pl} (h : ρ n = some p) : VR ρ M (.map n) (.map (some p.b))
  | nilmap : VR ρ M .nilmap (.map none)
  | fn {f : Fn} {fs cs : List AV} {fx cx : Array Value} (hl1 : fs.length = fx.size) (hl2 : cs.length = cx.size)
      (h1 : ∀ (i : Nat) (v : AV) (x : Value), fs[i]? = some v → fx[i]? = some x → VR ρ M v x)
      (h2 : ∀ (i : Nat) (v : AV) (x : Value), cs[i]? = some v → cx[i]? = some x → VR ρ M v x) : VR ρ M (.fn f fs cs) (.func f fx cx)
  | nilfn : VR ρ M .nilfn .nilFunc
  | ifc {t : TypeId} {v : AV} {x : Value} (h : VR ρ M v x) : VR ρ M (.ifc t v) (.iface t x)
  | nilifc : VR ρ M .nilifc .nilIface
  | agg {cs : List AV} {xs : Array Value} (hl : cs.length = xs.size) (h : ∀ (i : Nat) (v : AV) (x : Value), cs[i]? = some v → xs[i]? = some x → VR ρ M v x) : VR ρ M (.agg cs) (.agg xs)
  | tup {cs : List AV} {xs : Array Value} (hl : cs.length = xs.size) (h : ∀ (i : Nat) (v : AV) (x : Value), cs[i]? = some v → xs[i]? = some x → VR ρ M v x) : VR ρ M (.tup cs) (.tuple xs)

/-- Cells, one by one. -/
structure VRs (ρ : Names) (M : Mem) (cs : List AV) (xs : List Value) : Prop where
  len : cs.length = xs.length
  get : ∀ (i : Nat) (v : AV) (x : Value), cs[i]? = some v → xs[i]? = some x → VR ρ M v x

theorem VRs.nil {ρ : Names} {M : Mem} : VRs ρ M [] [] := ⟨rfl, fun i v x h => by simp at h⟩
theorem VRs.cons {ρ : Names} {M : Mem} {v : AV} {x : Value} {cs : List AV} {xs : List Value} (h : VR ρ M v x) (hs : VRs ρ M cs xs) : VRs ρ M (v :: cs) (x :: xs) :=
  ⟨by simp [hs.len], fun i u y hu hy => by
    cases i with
    | zero => simp at hu hy; subst hu; subst hy; exact h
    | succ i => simp at hu hy; exact hs.get i u y hu hy⟩
theorem VRs.head {ρ : Names} {M : Mem} {v : AV} {x : Value} {cs : List AV} {xs : List Value} (h : VRs ρ M (v :: cs) (x :: xs)) : VR ρ M v x := h.get 0 v x rfl rfl
theorem VRs.tail {ρ : Names} {M : Mem} {v : AV} {x : Value} {cs : List AV} {xs : List Value} (h : VRs ρ M (v :: cs) (x :: xs)) : VRs ρ M cs xs :=
  ⟨by have := h.len; simpa using this, fun i u y hu hy => h.get (i + 1) u y (by simpa using hu) (by simpa using hy)⟩
theorem VRs.ex {ρ : Names} {M : Mem} {cs : List AV} {xs : List Value} (h : VRs ρ M cs xs) {i : Nat} {v : AV} (hi : cs[i]? = some v) : ∃ x, xs[i]? = some x ∧ VR ρ M v x := by
  have hlt : i < xs.length := by rw [← h.len]; exact (List.getElem?_eq_some_iff.1 hi).1
  exact ⟨xs[i], List.getElem?_eq_getElem hlt, h.get i v _ hi (List.getElem?_eq_getElem hlt)⟩
theorem VRs.append {ρ : Names} {M : Mem} {cs ds : List AV} {xs ys : List Value} (h : VRs ρ M cs xs) (h' : VRs ρ M ds ys) : VRs ρ M (cs ++ ds) (xs ++ ys) := by
  refine ⟨by simp [h.len, h'.len], fun i v x hv hx => ?_⟩
  by_cases hi : i < cs.length
  · rw [List.getElem?_append_left hi] at hv
    rw [List.getElem?_append_left (by rw [← h.len]; exact hi)] at hx
    exact h.get i v x hv hx
  · rw [List.getElem?_append_right (by omega)] at hv
    rw [List.getElem?_append_right (by rw [← h.len]; omega), ← h.len] at hx
    exact h'.get _ v x hv hx
theorem VRs.drop {ρ : Names} {M : Mem} {cs : List AV} {xs : List Value} (h : VRs ρ M cs xs) (n : Nat) : VRs ρ M (cs.drop n) (xs.drop n) :=
  ⟨by simp [h.len], fun i v x hv hx => by rw [List.getElem?_drop] at hv hx; exact h.get _ v x hv hx⟩
theorem VRs.take {ρ : Names} {M : Mem} {cs : List AV} {xs : List Value} (h : VRs ρ M cs xs) (n : Nat) : VRs ρ M (cs.take n) (xs.take n) :=
  ⟨by simp [h.len], fun i v x hv hx => by
    rw [List.getElem?_take] at hv hx
    by_cases hi : i < n
    · rw [if_pos hi] at hv hx; exact h.get _ v x hv hx
    · rw [if_neg hi] at hv; cases hv⟩
theorem VRs.set {ρ : Names} {M : Mem} {cs : List AV} {xs : List Value} (h : VRs ρ M cs xs) (n : Nat) {v : AV} {x : Value} (hv : VR ρ M v x) : VRs ρ M (cs.set n v) (xs.set n x) :=
  ⟨by simp [h.len], fun i u y hu hy => by
    rw [List.getElem?_set] at hu hy
    by_cases hi : n = i
    · rw [if_pos hi] at hu hy
      split at hu
      · split at hy
        · injection hu with hu; injection hy with hy; subst hu; subst hy; exact hv
        · cases hy
      · cases hu
    · rw [if_neg hi] at hu hy; exact h.get _ u y hu hy⟩
theorem VRs.replicate_any {ρ : Names} {M : Mem} (n : Nat) (x : Value) : VRs ρ M (List.replicate n .any) (List.replicate n x) :=
  ⟨by simp, fun i v y hv _ => by
    rw [List.getElem?_replicate] at hv
    split at hv
    · injection hv with hv; subst hv; exact .any _
    · cases hv⟩
theorem VR.agg_iff {ρ : Names} {M : Mem} {cs : List AV} {y : Value} : VR ρ M (.agg cs) y ↔ ∃ xs : List Value, y = .agg xs.toArray ∧ VRs ρ M cs xs := by
  constructor
  · intro h; cases h with
    | agg hl h => rename_i xs; exact ⟨xs.toList, by simp, ⟨by simpa using hl, fun i v x hv hx => h i v x hv (by simpa using hx)⟩⟩
  · rintro ⟨xs, rfl, h⟩; exact .agg (by simp [h.len]) (fun i v x hv hx => h.get i v x hv (by simpa using hx))
theorem VR.tup_iff {ρ : Names} {M : Mem} {cs : List AV} {y : Value} : VR ρ M (.tup cs) y ↔ ∃ xs : List Value, y = .tuple xs.toArray ∧ VRs ρ M cs xs := by
  constructor
  · intro h; cases h with
    | tup hl h => rename_i xs; exact ⟨xs.toList, by simp, ⟨by simpa using hl, fun i v x hv hx => h i v x hv (by simpa using hx)⟩⟩
  · rintro ⟨xs, rfl, h⟩; exact .tup (by simp [h.len]) (fun i v x hv hx => h.get i v x hv (by simpa using hx))

/-- More names, more memory. -/
structure Grows (ρ : Names) (M : Mem) (ρ' : Names) (M' : Mem) : Prop where
  names : ∀ n p, ρ n = some p → ρ' n = some p
  mem : ∀ a x, M a = some x → M' a = some x
theorem Grows.refl {ρ : Names} {M : Mem} : Grows ρ M ρ M := ⟨fun _ _ h => h, fun _ _ h => h⟩
theorem Grows.trans {ρ ρ' ρ'' : Names} {M M' M'' : Mem} (h : Grows ρ M ρ' M') (h' : Grows ρ' M' ρ'' M'') : Grows ρ M ρ'' M'' :=
  ⟨fun n p hp => h'.names n p (h.names n p hp), fun a x hx => h'.mem a x (h.mem a x hx)⟩


theorem VR.mono {ρ ρ' : Names} {M M' : Mem} (hg : Grows ρ M ρ' M') {v : AV} {x : Value} (h : VR ρ M v x) : VR ρ' M' v x := by
  induction h with
  | any x => exact .any x
  | int k n => exact .int k n
  | bool b => exact .bool b
  | anyb b => exact .anyb b
  | str s => exact .str s
  | nilptr => exact .nilptr
  | ptr h => exact .ptr (hg.names _ _ h)
  | cptr h1 h2 ih =>
    refine .cptr (fun j v hv => ?_) (fun j v x hv hx => ?_)
    · obtain ⟨y, hy⟩ := Option.isSome_iff_exists.1 (h1 j v hv)
      rw [hg.mem _ _ hy]; rfl
    · obtain ⟨y, hy⟩ := Option.isSome_iff_exists.1 (h1 j v hv)
      rw [hg.mem _ _ hy] at hx; injection hx with hx; subst hx
      exact ih j v y hv hy
  | slnil h => exact .slnil h
  | slz a h => exact .slz a h
  | sl hsz hcap hc ht h1 h2 ih =>
    refine .sl hsz hcap hc (fun n hn => hg.names _ _ (ht n hn)) (fun i j e v he hv => ?_) (fun i j e v x he hv hx => ?_)
    · obtain ⟨y, hy⟩ := Option.isSome_iff_exists.1 (h1 i j e v he hv)
      rw [hg.mem _ _ hy]; rfl
    · obtain ⟨y, hy⟩ := Option.isSome_iff_exists.1 (h1 i j e v he hv)
      rw [hg.mem _ _ hy] at hx; injection hx with hx; subst hx
      exact ih i j e v y he hv hy
  | map h => exact .map (hg.names _ _ h)
  | nilmap => exact .nilmap
  | fn hl1 hl2 h1 h2 ih1 ih2 => exact .fn hl1 hl2 ih1 ih2
  | nilfn => exact .nilfn
  | ifc h ih => exact .ifc ih
  | nilifc => exact .nilifc
  | agg hl h ih => exact .agg hl ih
  | tup hl h ih => exact .tup hl ih
theorem VRs.mono {ρ ρ' : Names} {M M' : Mem} (hg : Grows ρ M ρ' M') {cs : List AV} {xs : List Value} (h : VRs ρ M cs xs) : VRs ρ' M' cs xs :=
  ⟨h.len, fun i v x hv hx => (h.get i v x hv hx).mono hg⟩

/-! ### The store of named variables -/
inductive AObj where
  | var (cs : List AV)
  | tok
  | map (es : List (AV × AV))
  | other (o : Obj)

abbrev Store := Nm → Option AObj
def Store.up (σ : Store) (n : Nm) (o : AObj) : Store := fun m => if m = n then some o else σ m
def Store.del (σ : Store) (n : Nm) : Store := fun m => if m = n then none else σ m
theorem Store.up_get (σ : Store) (n m : Nm) (o : AObj) : (σ.up n o) m = if m = n then some o else σ m := rfl
@[simp] theorem Store.up_same (σ : Store) (n : Nm) (o : AObj) : (σ.up n o) n = some o := by simp [Store.up]
@[simp] theorem Store.up_up (σ : Store) (n : Nm) (o o' : AObj) : (σ.up n o).up n o' = σ.up n o' := by
  funext m; simp only [Store.up]; split <;> rfl

/-- What lies in memory for a named variable. -/
def OR (ρ : Names) (M : Mem) (w : World) (p : Pl) : AObj → Prop
  | .var cs => p.o = 0 ∧ ∃ (xs : List Value) (T : TypeId), w.heap[p.b]? = some (.cells xs.toArray T (0, 0)) ∧ VRs ρ M cs xs ∧ ∀ a : Addr, a.block = p.b → M a = none
  | .tok => ∃ (xs : Array Value) (T : TypeId), w.heap[p.b]? = some (.cells xs T (0, 0)) ∧ p.o + p.k ≤ xs.size ∧ ∀ a : Addr, a.block = p.b → p.o ≤ a.off → M a = none
  | .map es => ∃ (xs : Array MapEntry) (clock : Nat), w.heap[p.b]? = some (.map xs clock) ∧ es.length = xs.size ∧
      (∀ (i : Nat) (e : AV × AV) (x : MapEntry), es[i]? = some e → xs[i]? = some x → VR ρ M e.1 x.key ∧ VR ρ M e.2 x.val)
  | .other o => w.heap[p.b]? = some o

structure Rel (ρ : Names) (M : Mem) (σ : Store) (w : World) : Prop where
  mem : ∀ a x, M a = some x → w.cell? a = some x
  lies : ∀ n o, σ n = some o → ∃ p, ρ n = some p ∧ OR ρ M w p o
  inj : ∀ n m p q, (σ n).isSome = true → (σ m).isSome = true → ρ n = some p → ρ m = some q → p.b = q.b → n = m

/-- Is block b one of the variables' own? -/
def Owned (ρ : Names) (σ : Store) (b : Nat) : Prop := ∃ n p, (σ n).isSome = true ∧ ρ n = some p ∧ p.b = b

/-- What a piece of the run does to memory: what is not its own stays. NS: the names that it may bind. -/
structure Evo (NS : Nm → Prop) (ρ : Names) (M : Mem) (σ : Store) (w : World) (ρ' : Names) (M' : Mem) (σ' : Store) (w' : World) : Prop where
  grows : Grows ρ M ρ' M'
  size : w.heap.size ≤ w'.heap.size
  os : w'.os = w.os
  tape : w'.tape = w.tape
  output : w'.output = w.output
  keep : ∀ b, b < w.heap.size → ¬ Owned ρ σ b → w'.heap[b]? = w.heap[b]?
  own : ∀ b, Owned ρ' σ' b → w.heap.size ≤ b ∨ Owned ρ σ b
  memNew : ∀ a, (M' a).isSome = true → (M a).isSome = true ∨ w.heap.size ≤ a.block ∨ Owned ρ σ a.block
  names : ∀ n p, ρ n = none → ρ' n = some p → NS n
  dom : ∀ n, (σ' n).isSome = true → (σ n).isSome = true ∨ NS n

theorem Rel.lt {ρ : Names} {M : Mem} {σ : Store} {w : World} (h : Rel ρ M σ w) {n : Nm} {o : AObj} {p : Pl} (hn : σ n = some o) (hp : ρ n = some p) : p.b < w.heap.size := by
  obtain ⟨q, hq, ho⟩ := h.lies n o hn
  rw [hp] at hq; injection hq with hq; subst hq
  have : ∀ {y : Obj}, w.heap[p.b]? = some y → p.b < w.heap.size := fun hy => (Array.getElem?_eq_some_iff.1 hy).1
  cases o with
  | var cs => obtain ⟨_, xs, T, hh, _⟩ := ho; exact this hh
  | tok => obtain ⟨xs, T, hh, _⟩ := ho; exact this hh
  | map es => obtain ⟨xs, c, hh, _⟩ := ho; exact this hh
  | other o => exact this ho
theorem Rel.owned_lt {ρ : Names} {M : Mem} {σ : Store} {w : World} (h : Rel ρ M σ w) {b : Nat} (hb : Owned ρ σ b) : b < w.heap.size := by
  obtain ⟨n, p, hn, hp, rfl⟩ := hb
  obtain ⟨o, ho⟩ := Option.isSome_iff_exists.1 hn
  exact h.lt ho hp

theorem Evo.refl {NS : Nm → Prop} {ρ : Names} {M : Mem} {σ : Store} {w : World} : Evo NS ρ M σ w ρ M σ w :=
  ⟨.refl, Nat.le_refl _, rfl, rfl, rfl, fun _ _ _ => rfl, fun _ h => .inr h, fun _ h => .inl h, fun n p h h' => (by rw [h] at h'; cases h'), fun _ h => .inl h⟩
theorem Evo.trans {NS : Nm → Prop} {ρ ρ' ρ'' : Names} {M M' M'' : Mem} {σ σ' σ'' : Store} {w w' w'' : World} (h : Evo NS ρ M σ w ρ' M' σ' w') (h' : Evo NS ρ' M' σ' w' ρ'' M'' σ'' w'') :
    Evo NS ρ M σ w ρ'' M'' σ'' w'' := by
  refine ⟨h.grows.trans h'.grows, Nat.le_trans h.size h'.size, h'.os.trans h.os, h'.tape.trans h.tape, h'.output.trans h.output, fun b hb hn => ?_, fun b hb => ?_, fun a ha => ?_, fun n p hn hp => ?_, fun n hn => (h'.dom n hn).elim (h.dom n) .inr⟩
  · rw [h'.keep b (Nat.lt_of_lt_of_le hb h.size) (fun ho => ?_), h.keep b hb hn]
    rcases h.own b ho with h1 | h1
    · omega
    · exact hn h1
  · rcases h'.own b hb with h1 | h1
    · exact .inl (Nat.le_trans h.size h1)
    · exact h.own b h1
  · rcases h'.memNew a ha with h1 | h1 | h1
    · exact h.memNew a h1
    · exact .inr (.inl (Nat.le_trans h.size h1))
    · exact .inr (h.own _ h1)
  · by_cases hq : ρ' n = none
    · exact h'.names n p hq hp
    · obtain ⟨q, hq'⟩ := Option.ne_none_iff_exists'.1 hq
      exact h.names n q hn hq'
theorem Evo.mono {NS NS' : Nm → Prop} {ρ ρ' : Names} {M M' : Mem} {σ σ' : Store} {w w' : World} (hN : ∀ n, NS n → NS' n) (h : Evo NS ρ M σ w ρ' M' σ' w') : Evo NS' ρ M σ w ρ' M' σ' w' :=
  ⟨h.grows, h.size, h.os, h.tape, h.output, h.keep, h.own, h.memNew, fun n p a b => hN n (h.names n p a b), fun n hn => (h.dom n hn).imp id (hN n)⟩

/-- A part of a store. -/
def Store.le (σ τ : Store) : Prop := ∀ n o, σ n = some o → τ n = some o
theorem Store.le_refl (σ : Store) : σ.le σ := fun _ _ h => h
theorem Store.le.isSome {σ τ : Store} (h : σ.le τ) {n : Nm} (hn : (σ n).isSome = true) : (τ n).isSome = true := by
  obtain ⟨o, ho⟩ := Option.isSome_iff_exists.1 hn; rw [h n o ho]; rfl
theorem Owned.le {ρ : Names} {σ τ : Store} (h : σ.le τ) {b : Nat} (hb : Owned ρ σ b) : Owned ρ τ b := by
  obtain ⟨n, p, hn, hp, e⟩ := hb; exact ⟨n, p, h.isSome hn, hp, e⟩
theorem Rel.le {ρ : Names} {M : Mem} {σ τ : Store} {w : World} (h : Rel ρ M τ w) (hl : σ.le τ) : Rel ρ M σ w :=
  ⟨h.mem, fun n o hn => h.lies n o (hl n o hn), fun n m p q hn hm => h.inj n m p q (hl.isSome hn) (hl.isSome hm)⟩
theorem Evo.le {NS : Nm → Prop} {ρ ρ' : Names} {M M' : Mem} {σ σ' τ' : Store} {w w' : World} (h : Evo NS ρ M σ w ρ' M' τ' w') (hl : σ'.le τ') : Evo NS ρ M σ w ρ' M' σ' w' :=
  ⟨h.grows, h.size, h.os, h.tape, h.output, h.keep, fun b hb => h.own b (hb.le hl), h.memNew, h.names, fun n hn => h.dom n (hl.isSome hn)⟩

end Go.Abs
