/- A1, A2, A3, A4, A5, A6, A7, A8, A17, A15, joined. -/
import Derived.CallsIn
import Derived.Laws.World
import Derived.Laws.Entries
import Derived.Deep.MidRow
import Derived.Laws.CopyRow
import Derived.Laws.Slices
import Derived.Laws.Unary
import Derived.Laws.StructEq
import Derived.ChangeKeysEq
import Derived.Laws.Cover3
import Derived.Laws.Append
import Derived.Laws.AppendOwn
import Derived.MapKept
/- Abstract values and their relation to the machine's memory. -/
set_option linter.unusedVariables false
set_option linter.unusedSimpArgs false
namespace Go.Abs

/-! ### Names of variables -/
inductive Nm where
  | root : Nm
  | sub (n : Nm) (i : Nat) : Nm
  | mk (b : Bool) (n : Nm) : Nm
  deriving DecidableEq

def Nm.depth : Nm → Nat
  | .root => 0
  | .sub n _ => n.depth + 1
  | .mk _ n => n.depth + 1

/-- 'n.under m': n is m, or lies below it. -/
def Nm.under : Nm → Nm → Bool
  | .root, m => decide (Nm.root = m)
  | .sub n i, m => decide (Nm.sub n i = m) || n.under m
  | .mk b n, m => decide (Nm.mk b n = m) || n.under m
/-- Below a mark: do appends lay rows that can be stored into? -/
def Nm.rows : Nm → Bool
  | .root => false
  | .sub n _ => n.rows
  | .mk b _ => b
/-- The name of a row. -/
def Nm.isRow : Nm → Bool
  | .mk _ _ => true
  | _ => false
@[simp] theorem Nm.isRow_mk (b : Bool) (n : Nm) : (n.mk b).isRow = true := rfl
@[simp] theorem Nm.isRow_sub (n : Nm) (i : Nat) : (n.sub i).isRow = false := rfl
/-- Appends give slices by value; or rows that can be stored into. -/
class ByVal (n : Nm) : Prop where
  h : n.rows = false
class ByRow (n : Nm) : Prop where
  h : n.rows = true
instance ByVal.sub {n : Nm} {i : Nat} [h : ByVal n] : ByVal (n.sub i) := ⟨h.h⟩
instance ByRow.sub {n : Nm} {i : Nat} [h : ByRow n] : ByRow (n.sub i) := ⟨h.h⟩
instance ByVal.mark {n : Nm} : ByVal (n.mk false) := ⟨rfl⟩
instance ByRow.mark {n : Nm} : ByRow (n.mk true) := ⟨rfl⟩
theorem rows_val {n : Nm} [h : ByVal n] : n.rows = false := h.h
theorem rows_row {n : Nm} [h : ByRow n] : n.rows = true := h.h

@[simp] theorem Nm.under_self (n : Nm) : n.under n = true := by cases n <;> simp [Nm.under]
@[simp] theorem Nm.under_sub_self (n : Nm) (i : Nat) : (n.sub i).under n = true := by simp [Nm.under]
theorem Nm.depth_of_under : ∀ {n m : Nm}, n.under m = true → m.depth ≤ n.depth
  | .root, m, h => by simp [Nm.under] at h; subst h; exact Nat.le_refl _
  | .sub n i, m, h => by
    simp [Nm.under] at h
    rcases h with h | h
    · subst h; exact Nat.le_refl _
    · have := Nm.depth_of_under h; simp [Nm.depth]; omega
  | .mk b n, m, h => by
    simp [Nm.under] at h
    rcases h with h | h
    · subst h; exact Nat.le_refl _
    · have := Nm.depth_of_under h; simp [Nm.depth]; omega
@[simp] theorem Nm.under_mk_self (n : Nm) (b : Bool) : (n.mk b).under n = true := by simp [Nm.under]
@[simp] theorem Nm.not_under_sub (n : Nm) (i : Nat) : n.under (n.sub i) = false := by
  cases h : n.under (n.sub i) with
  | false => rfl
  | true => have := Nm.depth_of_under h; simp [Nm.depth] at this; omega
@[simp] theorem Nm.not_under_sub2 (n : Nm) (i j : Nat) : n.under ((n.sub i).sub j) = false := by
  cases h : n.under ((n.sub i).sub j) with
  | false => rfl
  | true => have := Nm.depth_of_under h; simp [Nm.depth] at this; omega
@[simp] theorem Nm.sub_ne_self (n : Nm) (i : Nat) : ¬ (n.sub i = n) := fun h => by
  have := congrArg Nm.depth h; simp [Nm.depth] at this
@[simp] theorem Nm.ne_sub_self (n : Nm) (i : Nat) : ¬ (n = n.sub i) := fun h => by
  have := congrArg Nm.depth h; simp [Nm.depth] at this
@[simp] theorem Nm.sub_sub_ne_self (n : Nm) (i j : Nat) : ¬ ((n.sub i).sub j = n) := fun h => by
  have := congrArg Nm.depth h; simp [Nm.depth] at this; omega
@[simp] theorem Nm.ne_sub_sub_self (n : Nm) (i j : Nat) : ¬ (n = (n.sub i).sub j) := fun h => by
  have := congrArg Nm.depth h; simp [Nm.depth] at this; omega
@[simp] theorem Nm.sub3_ne_self (n : Nm) (i j k : Nat) : ¬ (((n.sub i).sub j).sub k = n) := fun h => by
  have := congrArg Nm.depth h; simp [Nm.depth] at this; omega
@[simp] theorem Nm.ne_sub3_self (n : Nm) (i j k : Nat) : ¬ (n = ((n.sub i).sub j).sub k) := fun h => by
  have := congrArg Nm.depth h; simp [Nm.depth] at this; omega
theorem Nm.under_sub (n : Nm) (i : Nat) (m : Nm) : (n.sub i).under m = (decide (n.sub i = m) || n.under m) := rfl
theorem Nm.under_trans : ∀ {n m k : Nm}, n.under m = true → m.under k = true → n.under k = true
  | .root, m, k, h, h' => by simp [Nm.under] at h; subst h; exact h'
  | .sub n i, m, k, h, h' => by
    simp [Nm.under] at h
    rcases h with h | h
    · subst h; exact h'
    · simp [Nm.under, Nm.under_trans h h']
  | .mk b n, m, k, h, h' => by
    simp [Nm.under] at h
    rcases h with h | h
    · subst h; exact h'
    · simp [Nm.under, Nm.under_trans h h']
/-- Two names above one name: one lies below the other. -/
theorem Nm.under_two : ∀ {n m k : Nm}, n.under m = true → n.under k = true → m.under k = true ∨ k.under m = true
  | .root, m, k, h, h' => by simp [Nm.under] at h h'; subst h; subst h'; simp
  | .sub n i, m, k, h, h' => by
    by_cases e : Nm.sub n i = m
    · subst e; exact .inl h'
    · by_cases e' : Nm.sub n i = k
      · subst e'; exact .inr h
      · simp [Nm.under, e] at h; simp [Nm.under, e'] at h'; exact Nm.under_two h h'
  | .mk b n, m, k, h, h' => by
    by_cases e : Nm.mk b n = m
    · subst e; exact .inl h'
    · by_cases e' : Nm.mk b n = k
      · subst e'; exact .inr h
      · simp [Nm.under, e] at h; simp [Nm.under, e'] at h'; exact Nm.under_two h h'
theorem Nm.under_sub_disjoint {n m : Nm} {i j : Nat} (h : n.under (m.sub i) = true) (h' : n.under (m.sub j) = true) : i = j := by
  have key : ∀ {a b : Nat}, (m.sub a).under (m.sub b) = true → a = b := by
    intro a b hab
    simp [Nm.under] at hab
    exact hab
  rcases Nm.under_two h h' with h1 | h1
  · exact key h1
  · exact (key h1).symm
theorem Nm.under_of_sub {n m : Nm} {i : Nat} (h : n.under (m.sub i) = true) : n.under m = true := Nm.under_trans h (by simp)

/-! ### Abstract values -/
/-- What is known of the room behind a slice: nothing; that there is none; that the token n stands for it. -/
inductive Cap where
  | unk
  | exact
  | nil
  | tok (n : Nm)

inductive AV where
  | any
  | int (k : IntKind) (n : Int)
  | bool (b : Bool)
  | anyb
  | str (s : ByteArray)
  | nilptr
  | ptr (n : Nm) (i : Nat)
  | cptr (cs : List AV)
  | sl (sz : Nat) (es : List (List AV)) (c : Cap)
  | slv (n : Nm) (sz len : Nat)
  | map (n : Nm)
  | nilmap
  | fn (f : Fn) (first captured : List AV)
  | nilfn
  | ifc (t : TypeId) (v : AV)
  | nilifc
  | agg (cs : List AV)
  | tup (vs : List AV)
  deriving Inhabited

/-- A place in memory: a block, an offset, a number of cells. -/
structure Pl where
  b : Nat
  o : Nat
  k : Nat

abbrev Names := Nm → Option Pl
abbrev Mem := Addr → Option Value

inductive VR (ρ : Names) (M : Mem) : AV → Value → Prop
  | any (x : Value) : VR ρ M .any x
  | int (k : IntKind) (n : Int) : VR ρ M (.int k n) (.int k n)
  | bool (b : Bool) : VR ρ M (.bool b) (.bool b)
  | anyb (b : Bool) : VR ρ M .anyb (.bool b)
  | str (s : ByteArray) : VR ρ M (.str s) (.string s)
  | nilptr : VR ρ M .nilptr (.pointer none)
  | ptr {n : Nm} {i : Nat} {p : Pl} (h : ρ n = some p) : VR ρ M (.ptr n i) (.pointer (some ⟨p.b, p.o + i, none⟩))
  | cptr {cs : List AV} {b o : Nat} (h1 : ∀ (j : Nat) (v : AV), cs[j]? = some v → (M ⟨b, o + j, none⟩).isSome = true)
      (h2 : ∀ (j : Nat) (v : AV) (x : Value), cs[j]? = some v → M ⟨b, o + j, none⟩ = some x → VR ρ M v x) : VR ρ M (.cptr cs) (.pointer (some ⟨b, o, none⟩))
  | slnil {sz : Nat} {c : Cap} (h : c = .unk ∨ c = .exact ∨ c = .nil) : VR ρ M (.sl sz [] c) (.slice none 0 0)
  | slz {sz : Nat} {c : Cap} (a : Addr) (h : c = .unk ∨ c = .exact) : VR ρ M (.sl sz [] c) (.slice (some a) 0 0)
  | sl {sz : Nat} {es : List (List AV)} {c : Cap} {b o cap : Nat} (hsz : ∀ e, e ∈ es → e.length = sz) (hcap : es.length ≤ cap)
      (hc : (c = .exact → cap = es.length) ∧ c ≠ .nil) (ht : ∀ n, c = .tok n → ρ n = some ⟨b, o + es.length * sz, (cap - es.length) * sz⟩)
      (h1 : ∀ (i j : Nat) (e : List AV) (v : AV), es[i]? = some e → e[j]? = some v → (M ⟨b, o + i * sz + j, none⟩).isSome = true)
      (h2 : ∀ (i j : Nat) (e : List AV) (v : AV) (x : Value), es[i]? = some e → e[j]? = some v → M ⟨b, o + i * sz + j, none⟩ = some x → VR ρ M v x) :
      VR ρ M (.sl sz es c) (.slice (some ⟨b, o, none⟩) es.length cap)
  | slv {n : Nm} {sz len cap : Nat} {p : Pl} (h : ρ n = some p) (hc : len ≤ cap ∧ cap * sz ≤ p.k) : VR ρ M (.slv n sz len) (.slice (some ⟨p.b, p.o, none⟩) len cap)
  | map {n : Nm} {p : Pl} (h : ρ n = some p) : VR ρ M (.map n) (.map (some p.b))
  | nilmap : VR ρ M .nilmap (.map none)
  | fn {f : Fn} {fs cs : List AV} {fx cx : Array Value} (hl1 : fs.length = fx.size) (hl2 : cs.length = cx.size)
      (h1 : ∀ (i : Nat) (v : AV) (x : Value), fs[i]? = some v → fx[i]? = some x → VR ρ M v x)
      (h2 : ∀ (i : Nat) (v : AV) (x : Value), cs[i]? = some v → cx[i]? = some x → VR ρ M v x) : VR ρ M (.fn f fs cs) (.func f fx cx)
  | nilfn : VR ρ M .nilfn .nilFunc
  | ifc {t : TypeId} {v : AV} {x : Value} (h : VR ρ M v x) : VR ρ M (.ifc t v) (.iface t x)
  | nilifc : VR ρ M .nilifc .nilIface
  | agg {cs : List AV} {xs : Array Value} (hl : cs.length = xs.size) (h : ∀ (i : Nat) (v : AV) (x : Value), cs[i]? = some v → xs[i]? = some x → VR ρ M v x) : VR ρ M (.agg cs) (.agg xs)
  | tup {cs : List AV} {xs : Array Value} (hl : cs.length = xs.size) (h : ∀ (i : Nat) (v : AV) (x : Value), cs[i]? = some v → xs[i]? = some x → VR ρ M v x) : VR ρ M (.tup cs) (.tuple xs)

/-- Cells, one by one. -/
structure VRs (ρ : Names) (M : Mem) (cs : List AV) (xs : List Value) : Prop where
  len : cs.length = xs.length
  get : ∀ (i : Nat) (v : AV) (x : Value), cs[i]? = some v → xs[i]? = some x → VR ρ M v x

theorem VRs.nil {ρ : Names} {M : Mem} : VRs ρ M [] [] := ⟨rfl, fun i v x h => by simp at h⟩
theorem VRs.cons {ρ : Names} {M : Mem} {v : AV} {x : Value} {cs : List AV} {xs : List Value} (h : VR ρ M v x) (hs : VRs ρ M cs xs) : VRs ρ M (v :: cs) (x :: xs) :=
  ⟨by simp [hs.len], fun i u y hu hy => by
    cases i with
    | zero => simp at hu hy; subst hu; subst hy; exact h
    | succ i => simp at hu hy; exact hs.get i u y hu hy⟩
theorem VRs.head {ρ : Names} {M : Mem} {v : AV} {x : Value} {cs : List AV} {xs : List Value} (h : VRs ρ M (v :: cs) (x :: xs)) : VR ρ M v x := h.get 0 v x rfl rfl
theorem VRs.tail {ρ : Names} {M : Mem} {v : AV} {x : Value} {cs : List AV} {xs : List Value} (h : VRs ρ M (v :: cs) (x :: xs)) : VRs ρ M cs xs :=
  ⟨by have := h.len; simpa using this, fun i u y hu hy => h.get (i + 1) u y (by simpa using hu) (by simpa using hy)⟩
theorem VRs.ex {ρ : Names} {M : Mem} {cs : List AV} {xs : List Value} (h : VRs ρ M cs xs) {i : Nat} {v : AV} (hi : cs[i]? = some v) : ∃ x, xs[i]? = some x ∧ VR ρ M v x := by
  have hlt : i < xs.length := by rw [← h.len]; exact (List.getElem?_eq_some_iff.1 hi).1
  exact ⟨xs[i], List.getElem?_eq_getElem hlt, h.get i v _ hi (List.getElem?_eq_getElem hlt)⟩
theorem VRs.append {ρ : Names} {M : Mem} {cs ds : List AV} {xs ys : List Value} (h : VRs ρ M cs xs) (h' : VRs ρ M ds ys) : VRs ρ M (cs ++ ds) (xs ++ ys) := by
  refine ⟨by simp [h.len, h'.len], fun i v x hv hx => ?_⟩
  by_cases hi : i < cs.length
  · rw [List.getElem?_append_left hi] at hv
    rw [List.getElem?_append_left (by rw [← h.len]; exact hi)] at hx
    exact h.get i v x hv hx
  · rw [List.getElem?_append_right (by omega)] at hv
    rw [List.getElem?_append_right (by rw [← h.len]; omega), ← h.len] at hx
    exact h'.get _ v x hv hx
theorem VRs.drop {ρ : Names} {M : Mem} {cs : List AV} {xs : List Value} (h : VRs ρ M cs xs) (n : Nat) : VRs ρ M (cs.drop n) (xs.drop n) :=
  ⟨by simp [h.len], fun i v x hv hx => by rw [List.getElem?_drop] at hv hx; exact h.get _ v x hv hx⟩
theorem VRs.take {ρ : Names} {M : Mem} {cs : List AV} {xs : List Value} (h : VRs ρ M cs xs) (n : Nat) : VRs ρ M (cs.take n) (xs.take n) :=
  ⟨by simp [h.len], fun i v x hv hx => by
    rw [List.getElem?_take] at hv hx
    by_cases hi : i < n
    · rw [if_pos hi] at hv hx; exact h.get _ v x hv hx
    · rw [if_neg hi] at hv; cases hv⟩
theorem VRs.set {ρ : Names} {M : Mem} {cs : List AV} {xs : List Value} (h : VRs ρ M cs xs) (n : Nat) {v : AV} {x : Value} (hv : VR ρ M v x) : VRs ρ M (cs.set n v) (xs.set n x) :=
  ⟨by simp [h.len], fun i u y hu hy => by
    rw [List.getElem?_set] at hu hy
    by_cases hi : n = i
    · rw [if_pos hi] at hu hy
      split at hu
      · split at hy
        · injection hu with hu; injection hy with hy; subst hu; subst hy; exact hv
        · cases hy
      · cases hu
    · rw [if_neg hi] at hu hy; exact h.get _ u y hu hy⟩
theorem VRs.replicate_any {ρ : Names} {M : Mem} (n : Nat) (x : Value) : VRs ρ M (List.replicate n .any) (List.replicate n x) :=
  ⟨by simp, fun i v y hv _ => by
    rw [List.getElem?_replicate] at hv
    split at hv
    · injection hv with hv; subst hv; exact .any _
    · cases hv⟩
theorem VR.agg_iff {ρ : Names} {M : Mem} {cs : List AV} {y : Value} : VR ρ M (.agg cs) y ↔ ∃ xs : List Value, y = .agg xs.toArray ∧ VRs ρ M cs xs := by
  constructor
  · intro h; cases h with
    | agg hl h => rename_i xs; exact ⟨xs.toList, by simp, ⟨by simpa using hl, fun i v x hv hx => h i v x hv (by simpa using hx)⟩⟩
  · rintro ⟨xs, rfl, h⟩; exact .agg (by simp [h.len]) (fun i v x hv hx => h.get i v x hv (by simpa using hx))
theorem VR.tup_iff {ρ : Names} {M : Mem} {cs : List AV} {y : Value} : VR ρ M (.tup cs) y ↔ ∃ xs : List Value, y = .tuple xs.toArray ∧ VRs ρ M cs xs := by
  constructor
  · intro h; cases h with
    | tup hl h => rename_i xs; exact ⟨xs.toList, by simp, ⟨by simpa using hl, fun i v x hv hx => h i v x hv (by simpa using hx)⟩⟩
  · rintro ⟨xs, rfl, h⟩; exact .tup (by simp [h.len]) (fun i v x hv hx => h.get i v x hv (by simpa using hx))

/-- More names, more memory. -/
structure Grows (ρ : Names) (M : Mem) (ρ' : Names) (M' : Mem) : Prop where
  names : ∀ n p, ρ n = some p → ρ' n = some p
  mem : ∀ a x, M a = some x → M' a = some x
theorem Grows.refl {ρ : Names} {M : Mem} : Grows ρ M ρ M := ⟨fun _ _ h => h, fun _ _ h => h⟩
theorem Grows.trans {ρ ρ' ρ'' : Names} {M M' M'' : Mem} (h : Grows ρ M ρ' M') (h' : Grows ρ' M' ρ'' M'') : Grows ρ M ρ'' M'' :=
  ⟨fun n p hp => h'.names n p (h.names n p hp), fun a x hx => h'.mem a x (h.mem a x hx)⟩


theorem VR.mono {ρ ρ' : Names} {M M' : Mem} (hg : Grows ρ M ρ' M') {v : AV} {x : Value} (h : VR ρ M v x) : VR ρ' M' v x := by
  induction h with
  | any x => exact .any x
  | int k n => exact .int k n
  | bool b => exact .bool b
  | anyb b => exact .anyb b
  | str s => exact .str s
  | nilptr => exact .nilptr
  | ptr h => exact .ptr (hg.names _ _ h)
  | cptr h1 h2 ih =>
    refine .cptr (fun j v hv => ?_) (fun j v x hv hx => ?_)
    · obtain ⟨y, hy⟩ := Option.isSome_iff_exists.1 (h1 j v hv)
      rw [hg.mem _ _ hy]; rfl
    · obtain ⟨y, hy⟩ := Option.isSome_iff_exists.1 (h1 j v hv)
      rw [hg.mem _ _ hy] at hx; injection hx with hx; subst hx
      exact ih j v y hv hy
  | slnil h => exact .slnil h
  | slz a h => exact .slz a h
  | sl hsz hcap hc ht h1 h2 ih =>
    refine .sl hsz hcap hc (fun n hn => hg.names _ _ (ht n hn)) (fun i j e v he hv => ?_) (fun i j e v x he hv hx => ?_)
    · obtain ⟨y, hy⟩ := Option.isSome_iff_exists.1 (h1 i j e v he hv)
      rw [hg.mem _ _ hy]; rfl
    · obtain ⟨y, hy⟩ := Option.isSome_iff_exists.1 (h1 i j e v he hv)
      rw [hg.mem _ _ hy] at hx; injection hx with hx; subst hx
      exact ih i j e v y he hv hy
  | slv h hc => exact .slv (hg.names _ _ h) hc
  | map h => exact .map (hg.names _ _ h)
  | nilmap => exact .nilmap
  | fn hl1 hl2 h1 h2 ih1 ih2 => exact .fn hl1 hl2 ih1 ih2
  | nilfn => exact .nilfn
  | ifc h ih => exact .ifc ih
  | nilifc => exact .nilifc
  | agg hl h ih => exact .agg hl ih
  | tup hl h ih => exact .tup hl ih
theorem VRs.mono {ρ ρ' : Names} {M M' : Mem} (hg : Grows ρ M ρ' M') {cs : List AV} {xs : List Value} (h : VRs ρ M cs xs) : VRs ρ' M' cs xs :=
  ⟨h.len, fun i v x hv hx => (h.get i v x hv hx).mono hg⟩

/-! ### The store of named variables -/
inductive AObj where
  | var (cs : List AV)
  | tok
  | map (es : List (AV × AV))
  | other (o : Obj)
  | glob (b : Nat) (o : Obj)

abbrev Store := Nm → Option AObj
def Store.up (σ : Store) (n : Nm) (o : AObj) : Store := fun m => if m = n then some o else σ m
def Store.del (σ : Store) (n : Nm) : Store := fun m => if m = n then none else σ m
theorem Store.up_get (σ : Store) (n m : Nm) (o : AObj) : (σ.up n o) m = if m = n then some o else σ m := rfl
@[simp] theorem Store.up_same (σ : Store) (n : Nm) (o : AObj) : (σ.up n o) n = some o := by simp [Store.up]
@[simp] theorem Store.up_up (σ : Store) (n : Nm) (o o' : AObj) : (σ.up n o).up n o' = σ.up n o' := by
  funext m; simp only [Store.up]; split <;> rfl

/-- What lies in memory for a named variable. -/
def OR (ρ : Names) (M : Mem) (w : World) (p : Pl) : AObj → Prop
  | .var cs => p.o = 0 ∧ ∃ (xs ys : List Value) (T : TypeId), w.heap[p.b]? = some (.cells (xs ++ ys).toArray T (0, 0)) ∧ (VRs ρ M cs xs ∧ p.k ≤ (xs ++ ys).length) ∧ ∀ a : Addr, a.block = p.b → M a = none
  | .tok => ∃ (xs : Array Value) (T : TypeId), w.heap[p.b]? = some (.cells xs T (0, 0)) ∧ p.o + p.k ≤ xs.size ∧ ∀ a : Addr, a.block = p.b → p.o ≤ a.off → M a = none
  | .map es => ∃ (xs : Array MapEntry) (clock : Nat), w.heap[p.b]? = some (.map xs clock) ∧ es.length = xs.size ∧
      (∀ (i : Nat) (e : AV × AV) (x : MapEntry), es[i]? = some e → xs[i]? = some x → VR ρ M e.1 x.key ∧ VR ρ M e.2 x.val)
  | .other o => w.heap[p.b]? = some o
  | .glob b o => p.b = b ∧ w.heap[p.b]? = some o

structure Rel (ρ : Names) (M : Mem) (σ : Store) (w : World) : Prop where
  mem : ∀ a x, M a = some x → w.cell? a = some x
  lies : ∀ n o, σ n = some o → ∃ p, ρ n = some p ∧ OR ρ M w p o
  inj : ∀ n m p q, (σ n).isSome = true → (σ m).isSome = true → ρ n = some p → ρ m = some q → p.b = q.b → n = m

/-- Is block b one of the variables' own? -/
def Owned (ρ : Names) (σ : Store) (b : Nat) : Prop := ∃ n p, (σ n).isSome = true ∧ ρ n = some p ∧ p.b = b

/-- What a piece of the run does to memory: what is not its own stays. NS: the names that it may bind. -/
structure Evo (NS : Nm → Prop) (ρ : Names) (M : Mem) (σ : Store) (w : World) (ρ' : Names) (M' : Mem) (σ' : Store) (w' : World) : Prop where
  grows : Grows ρ M ρ' M'
  size : w.heap.size ≤ w'.heap.size
  os : w'.os = w.os
  tape : w'.tape = w.tape
  output : w'.output = w.output
  keep : ∀ b, b < w.heap.size → ¬ Owned ρ σ b → w'.heap[b]? = w.heap[b]?
  own : ∀ b, Owned ρ' σ' b → w.heap.size ≤ b ∨ Owned ρ σ b
  memNew : ∀ a, (M' a).isSome = true → (M a).isSome = true ∨ w.heap.size ≤ a.block ∨ Owned ρ σ a.block
  names : ∀ n p, ρ n = none → ρ' n = some p → NS n
  dom : ∀ n, (σ' n).isSome = true → (σ n).isSome = true ∨ NS n

theorem Rel.lt {ρ : Names} {M : Mem} {σ : Store} {w : World} (h : Rel ρ M σ w) {n : Nm} {o : AObj} {p : Pl} (hn : σ n = some o) (hp : ρ n = some p) : p.b < w.heap.size := by
  obtain ⟨q, hq, ho⟩ := h.lies n o hn
  rw [hp] at hq; injection hq with hq; subst hq
  have : ∀ {y : Obj}, w.heap[p.b]? = some y → p.b < w.heap.size := fun hy => (Array.getElem?_eq_some_iff.1 hy).1
  cases o with
  | var cs => obtain ⟨_, xs, ys, T, hh, _⟩ := ho; exact this hh
  | tok => obtain ⟨xs, T, hh, _⟩ := ho; exact this hh
  | map es => obtain ⟨xs, c, hh, _⟩ := ho; exact this hh
  | other o => exact this ho
  | glob b o => exact this ho.2
theorem Rel.owned_lt {ρ : Names} {M : Mem} {σ : Store} {w : World} (h : Rel ρ M σ w) {b : Nat} (hb : Owned ρ σ b) : b < w.heap.size := by
  obtain ⟨n, p, hn, hp, rfl⟩ := hb
  obtain ⟨o, ho⟩ := Option.isSome_iff_exists.1 hn
  exact h.lt ho hp

theorem Evo.refl {NS : Nm → Prop} {ρ : Names} {M : Mem} {σ : Store} {w : World} : Evo NS ρ M σ w ρ M σ w :=
  ⟨.refl, Nat.le_refl _, rfl, rfl, rfl, fun _ _ _ => rfl, fun _ h => .inr h, fun _ h => .inl h, fun n p h h' => (by rw [h] at h'; cases h'), fun _ h => .inl h⟩
theorem Evo.trans {NS : Nm → Prop} {ρ ρ' ρ'' : Names} {M M' M'' : Mem} {σ σ' σ'' : Store} {w w' w'' : World} (h : Evo NS ρ M σ w ρ' M' σ' w') (h' : Evo NS ρ' M' σ' w' ρ'' M'' σ'' w'') :
    Evo NS ρ M σ w ρ'' M'' σ'' w'' := by
  refine ⟨h.grows.trans h'.grows, Nat.le_trans h.size h'.size, h'.os.trans h.os, h'.tape.trans h.tape, h'.output.trans h.output, fun b hb hn => ?_, fun b hb => ?_, fun a ha => ?_, fun n p hn hp => ?_, fun n hn => (h'.dom n hn).elim (h.dom n) .inr⟩
  · rw [h'.keep b (Nat.lt_of_lt_of_le hb h.size) (fun ho => ?_), h.keep b hb hn]
    rcases h.own b ho with h1 | h1
    · omega
    · exact hn h1
  · rcases h'.own b hb with h1 | h1
    · exact .inl (Nat.le_trans h.size h1)
    · exact h.own b h1
  · rcases h'.memNew a ha with h1 | h1 | h1
    · exact h.memNew a h1
    · exact .inr (.inl (Nat.le_trans h.size h1))
    · exact .inr (h.own _ h1)
  · by_cases hq : ρ' n = none
    · exact h'.names n p hq hp
    · obtain ⟨q, hq'⟩ := Option.ne_none_iff_exists'.1 hq
      exact h.names n q hn hq'
theorem Evo.mono {NS NS' : Nm → Prop} {ρ ρ' : Names} {M M' : Mem} {σ σ' : Store} {w w' : World} (hN : ∀ n, NS n → NS' n) (h : Evo NS ρ M σ w ρ' M' σ' w') : Evo NS' ρ M σ w ρ' M' σ' w' :=
  ⟨h.grows, h.size, h.os, h.tape, h.output, h.keep, h.own, h.memNew, fun n p a b => hN n (h.names n p a b), fun n hn => (h.dom n hn).imp id (hN n)⟩

/-- A part of a store. -/
def Store.le (σ τ : Store) : Prop := ∀ n o, σ n = some o → τ n = some o
theorem Store.le_refl (σ : Store) : σ.le σ := fun _ _ h => h
theorem Store.le.isSome {σ τ : Store} (h : σ.le τ) {n : Nm} (hn : (σ n).isSome = true) : (τ n).isSome = true := by
  obtain ⟨o, ho⟩ := Option.isSome_iff_exists.1 hn; rw [h n o ho]; rfl
theorem Owned.le {ρ : Names} {σ τ : Store} (h : σ.le τ) {b : Nat} (hb : Owned ρ σ b) : Owned ρ τ b := by
  obtain ⟨n, p, hn, hp, e⟩ := hb; exact ⟨n, p, h.isSome hn, hp, e⟩
theorem Rel.le {ρ : Names} {M : Mem} {σ τ : Store} {w : World} (h : Rel ρ M τ w) (hl : σ.le τ) : Rel ρ M σ w :=
  ⟨h.mem, fun n o hn => h.lies n o (hl n o hn), fun n m p q hn hm => h.inj n m p q (hl.isSome hn) (hl.isSome hm)⟩
theorem Evo.le {NS : Nm → Prop} {ρ ρ' : Names} {M M' : Mem} {σ σ' τ' : Store} {w w' : World} (h : Evo NS ρ M σ w ρ' M' τ' w') (hl : σ'.le τ') : Evo NS ρ M σ w ρ' M' σ' w' :=
  ⟨h.grows, h.size, h.os, h.tape, h.output, h.keep, fun b hb => h.own b (hb.le hl), h.memNew, h.names, fun n hn => h.dom n (hl.isSome hn)⟩

end Go.Abs

/- How the relation between abstract stores and memory is carried over allocations and stores. -/
set_option linter.unusedVariables false
set_option linter.unusedSimpArgs false
namespace Go.Abs

theorem cell?_eq_none_of_ge {w : World} {a : Addr} (h : w.heap.size ≤ a.block) : w.cell? a = none := by
  unfold World.cell?; rw [Array.getElem?_eq_none h]
theorem Rel.mem_lt {ρ : Names} {M : Mem} {σ : Store} {w : World} (h : Rel ρ M σ w) {a : Addr} (ha : (M a).isSome = true) : a.block < w.heap.size := by
  obtain ⟨x, hx⟩ := Option.isSome_iff_exists.1 ha
  exact World.block_lt_of_cell? _ _ (h.mem a x hx)
theorem Rel.mem_none {ρ : Names} {M : Mem} {σ : Store} {w : World} (h : Rel ρ M σ w) {a : Addr} (ha : w.heap.size ≤ a.block) : M a = none := by
  cases hx : M a with
  | none => rfl
  | some x => have := h.mem_lt (a := a) (by simp [hx]); omega

theorem OR.mono {ρ ρ' : Names} {M M' : Mem} {w w' : World} {p : Pl} {o : AObj} (h : OR ρ M w p o) (hg : Grows ρ M ρ' M') (hb : w'.heap[p.b]? = w.heap[p.b]?)
    (hM : ∀ a : Addr, a.block = p.b → (M' a).isSome = true → (M a).isSome = true) : OR ρ' M' w' p o := by
  have hnone : ∀ a : Addr, a.block = p.b → M a = none → M' a = none := fun a ha hm => by
    cases hx : M' a with
    | none => rfl
    | some x => have := hM a ha (by simp [hx]); simp [hm] at this
  cases o with
  | var cs =>
    obtain ⟨h0, xs, ys, T, hh, hv, hm⟩ := h
    exact ⟨h0, xs, ys, T, hb.trans hh, ⟨hv.1.mono hg, hv.2⟩, fun a ha => hnone a ha (hm a ha)⟩
  | tok =>
    obtain ⟨xs, T, hh, hl, hm⟩ := h
    exact ⟨xs, T, hb.trans hh, hl, fun a ha ho => hnone a ha (hm a ha ho)⟩
  | map es =>
    obtain ⟨xs, c, hh, hl, hv⟩ := h
    exact ⟨xs, c, hb.trans hh, hl, fun i e x he hx => ⟨(hv i e x he hx).1.mono hg, (hv i e x he hx).2.mono hg⟩⟩
  | other o => exact hb.trans h
  | glob b o => exact ⟨h.1, hb.trans h.2⟩

def Names.up (ρ : Names) (n : Nm) (p : Pl) : Names := fun m => if m = n then some p else ρ m
theorem Names.up_same (ρ : Names) (n : Nm) (p : Pl) : (ρ.up n p) n = some p := by simp [Names.up]
theorem Names.up_ne (ρ : Names) {n m : Nm} (p : Pl) (h : m ≠ n) : (ρ.up n p) m = ρ m := by simp [Names.up, h]
theorem Names.grows_up (ρ : Names) (M : Mem) (n : Nm) (p : Pl) (h : ρ n = none) : Grows ρ M (ρ.up n p) M :=
  ⟨fun m q hq => by
    by_cases e : m = n
    · subst e; rw [h] at hq; cases hq
    · rw [Names.up_ne _ _ e]; exact hq, fun _ _ h => h⟩

/-- One variable is new, or has turned. -/
theorem Rel.put {ρ ρ' : Names} {M M' : Mem} {σ : Store} {w w' : World} {n0 : Nm} {o0 : AObj} {p0 : Pl} (h : Rel ρ M σ w) (hg : Grows ρ M ρ' M')
    (hM : ∀ a x, M' a = some x → w'.cell? a = some x) (hp : ρ' n0 = some p0) (ho : OR ρ' M' w' p0 o0)
    (hk : ∀ n p, n ≠ n0 → (σ n).isSome = true → ρ n = some p → p.b ≠ p0.b ∧ w'.heap[p.b]? = w.heap[p.b]? ∧ ∀ a : Addr, a.block = p.b → (M' a).isSome = true → (M a).isSome = true) :
    Rel ρ' M' (σ.up n0 o0) w' := by
  refine ⟨hM, fun n o hn => ?_, fun n m p q hn hm hpn hqm e => ?_⟩
  · by_cases e : n = n0
    · subst e
      simp only [Store.up_same, Option.some.injEq] at hn
      subst hn
      exact ⟨p0, hp, ho⟩
    · rw [Store.up_get, if_neg e] at hn
      obtain ⟨p, hpn, hor⟩ := h.lies n o hn
      have hh := hk n p e (by simp [hn]) hpn
      exact ⟨p, hg.names _ _ hpn, hor.mono hg hh.2.1 hh.2.2⟩
  · have back : ∀ n p, n ≠ n0 → ((σ.up n0 o0) n).isSome = true → ρ' n = some p → (σ n).isSome = true ∧ ρ n = some p := fun n p hne hn hp => by
      rw [Store.up_get, if_neg hne] at hn
      obtain ⟨o, ho⟩ := Option.isSome_iff_exists.1 hn
      obtain ⟨q, hq, _⟩ := h.lies n o ho
      have := hg.names _ _ hq
      rw [hp] at this; injection this with this; subst this
      exact ⟨hn, hq⟩
    by_cases e1 : n = n0
    · by_cases e2 : m = n0
      · rw [e1, e2]
      · obtain ⟨hm', hq'⟩ := back m q e2 hm hqm
        rw [e1, hp] at hpn; injection hpn with hpn; subst hpn
        exact absurd e.symm (hk m q e2 hm' hq').1
    · by_cases e2 : m = n0
      · obtain ⟨hn', hp'⟩ := back n p e1 hn hpn
        rw [e2, hp] at hqm; injection hqm with hqm; subst hqm
        exact absurd e (hk n p e1 hn' hp').1
      · obtain ⟨hn', hp'⟩ := back n p e1 hn hpn
        obtain ⟨hm', hq'⟩ := back m q e2 hm hqm
        exact h.inj n m p q hn' hm' hp' hq' e
/-- No variable is new. -/
theorem Rel.stay {ρ ρ' : Names} {M M' : Mem} {σ : Store} {w w' : World} (h : Rel ρ M σ w) (hg : Grows ρ M ρ' M')
    (hM : ∀ a x, M' a = some x → w'.cell? a = some x)
    (hk : ∀ n p, (σ n).isSome = true → ρ n = some p → w'.heap[p.b]? = w.heap[p.b]? ∧ ∀ a : Addr, a.block = p.b → (M' a).isSome = true → (M a).isSome = true) :
    Rel ρ' M' σ w' := by
  refine ⟨hM, fun n o hn => ?_, fun n m p q hn hm hpn hqm e => ?_⟩
  · obtain ⟨p, hpn, hor⟩ := h.lies n o hn
    have hh := hk n p (by simp [hn]) hpn
    exact ⟨p, hg.names _ _ hpn, hor.mono hg hh.1 hh.2⟩
  · have back : ∀ n p, (σ n).isSome = true → ρ' n = some p → ρ n = some p := fun n p hn hp => by
      obtain ⟨o, ho⟩ := Option.isSome_iff_exists.1 hn
      obtain ⟨q, hq, _⟩ := h.lies n o ho
      have := hg.names _ _ hq
      rw [hp] at this; injection this with this; subst this; exact hq
    exact h.inj n m p q hn hm (back n p hn hpn) (back m q hm hqm) e

theorem Rel.drew {ρ : Names} {M : Mem} {σ : Store} {w : World} (h : Rel ρ M σ w) (k : Nat) : Rel ρ M σ { w with drawn := k } :=
  h.stay .refl h.mem (fun n p _ _ => ⟨rfl, fun a _ ha => ha⟩)
theorem Evo.drew {NS : Nm → Prop} {ρ : Names} {M : Mem} {σ : Store} {w : World} (k : Nat) : Evo NS ρ M σ w ρ M σ { w with drawn := k } :=
  ⟨.refl, Nat.le_refl _, rfl, rfl, rfl, fun _ _ _ => rfl, fun _ h => .inr h, fun _ h => .inl h, fun n p h h' => (by rw [h] at h'; cases h'), fun _ h => .inl h⟩

theorem heap_alloc_new (w : World) (o : Obj) : (w.alloc o).heap[w.heap.size]? = some o := by simp [World.alloc, -World.alloc_eq]
theorem heap_alloc_old (w : World) (o : Obj) {b : Nat} (h : b < w.heap.size) : (w.alloc o).heap[b]? = w.heap[b]? := by
  simp [World.alloc, Array.getElem?_push, Nat.ne_of_lt h, -World.alloc_eq]
theorem cell?_alloc_mono {w : World} {o : Obj} {a : Addr} {x : Value} (h : w.cell? a = some x) : (w.alloc o).cell? a = some x := by
  rw [World.cell?_alloc_lt _ _ _ (World.block_lt_of_cell? _ _ h)]; exact h

/-- A new block for a new variable (any object that is told by the store). -/
theorem Rel.alloc {ρ : Names} {M : Mem} {σ : Store} {w : World} {n : Nm} {o : AObj} {ob : Obj} {NS : Nm → Prop} (k : Nat) (h : Rel ρ M σ w) (hn : ρ n = none) (hN : NS n)
    (ho : OR (ρ.up n ⟨w.heap.size, 0, k⟩) M (w.alloc ob) ⟨w.heap.size, 0, k⟩ o) :
    Rel (ρ.up n ⟨w.heap.size, 0, k⟩) M (σ.up n o) (w.alloc ob) ∧ Evo NS ρ M σ w (ρ.up n ⟨w.heap.size, 0, k⟩) M (σ.up n o) (w.alloc ob) := by
  have hg := Names.grows_up ρ M n ⟨w.heap.size, 0, k⟩ hn
  refine ⟨h.put hg (fun a x hx => cell?_alloc_mono (h.mem a x hx)) (Names.up_same ..) ho (fun m p hne hm hp => ?_), ?_⟩
  · have hlt := h.owned_lt ⟨m, p, hm, hp, rfl⟩
    exact ⟨Nat.ne_of_lt hlt, heap_alloc_old _ _ hlt, fun a _ ha => ha⟩
  · refine ⟨hg, by simp, rfl, rfl, rfl, fun b hb _ => heap_alloc_old _ _ hb, fun b hb => ?_, fun a ha => .inl ha, fun m p hm hp => ?_, ?dom⟩
    case dom =>
      intro m hm
      by_cases e : m = n
      · subst e; exact .inr hN
      · rw [Store.up_get, if_neg e] at hm; exact .inl hm
    · obtain ⟨m, p, hm, hp, rfl⟩ := hb
      by_cases e : m = n
      · subst e; rw [Names.up_same] at hp; injection hp with hp; subst hp; exact .inl (Nat.le_refl _)
      · rw [Names.up_ne _ _ e] at hp; rw [Store.up_get, if_neg e] at hm
        exact .inr ⟨m, p, hm, hp, rfl⟩
    · by_cases e : m = n
      · subst e; exact hN
      · rw [Names.up_ne _ _ e, hm] at hp; cases hp

theorem Rel.alloc_var {ρ : Names} {M : Mem} {σ : Store} {w : World} {n : Nm} {cs : List AV} {xs : List Value} {NS : Nm → Prop} (T : TypeId) (h : Rel ρ M σ w) (hn : ρ n = none) (hN : NS n) (hv : VRs ρ M cs xs) :
    Rel (ρ.up n ⟨w.heap.size, 0, 0⟩) M (σ.up n (.var cs)) (w.alloc (.cells xs.toArray T)) ∧ Evo NS ρ M σ w (ρ.up n ⟨w.heap.size, 0, 0⟩) M (σ.up n (.var cs)) (w.alloc (.cells xs.toArray T)) :=
  h.alloc 0 hn hN ⟨rfl, xs, [], T, by rw [heap_alloc_new, List.append_nil], ⟨hv.mono (Names.grows_up ρ M n _ hn), Nat.zero_le _⟩, fun a ha => h.mem_none (by rw [ha]; exact Nat.le_refl _)⟩

/-- A block of rows: the first cells told, what follows unknown. -/
theorem Rel.alloc_row {ρ : Names} {M : Mem} {σ : Store} {w : World} {n : Nm} {cs : List AV} {xs : List Value} {NS : Nm → Prop} (ys : List Value) (T : TypeId) (h : Rel ρ M σ w) (hn : ρ n = none) (hN : NS n) (hv : VRs ρ M cs xs) :
    Rel (ρ.up n ⟨w.heap.size, 0, (xs ++ ys).length⟩) M (σ.up n (.var cs)) (w.alloc (.cells (xs ++ ys).toArray T)) ∧ Evo NS ρ M σ w (ρ.up n ⟨w.heap.size, 0, (xs ++ ys).length⟩) M (σ.up n (.var cs)) (w.alloc (.cells (xs ++ ys).toArray T)) :=
  h.alloc _ hn hN ⟨rfl, xs, ys, T, heap_alloc_new _ _, ⟨hv.mono (Names.grows_up ρ M n _ hn), Nat.le_refl _⟩, fun a ha => h.mem_none (by rw [ha]; exact Nat.le_refl _)⟩

/-- The cells of a variable are set anew. -/
theorem Rel.setRow_var {ρ : Names} {M : Mem} {σ : Store} {w : World} {n : Nm} {cs cs' : List AV} {p : Pl} {xs' ys' : List Value} {cur : Array Value} {T : TypeId} {NS : Nm → Prop} (h : Rel ρ M σ w)
    (hn : σ n = some (.var cs)) (hp : ρ n = some p) (hh : w.heap[p.b]? = some (.cells cur T (0, 0))) (hv : VRs ρ M cs' xs') (hk : p.k ≤ (xs' ++ ys').length) :
    Rel ρ M (σ.up n (.var cs')) (w.setRow p.b (xs' ++ ys').toArray) ∧ Evo NS ρ M σ w ρ M (σ.up n (.var cs')) (w.setRow p.b (xs' ++ ys').toArray) := by
  obtain ⟨q, hq, h0, zs, us, T', hh', _, hm⟩ := h.lies n _ hn
  rw [hp] at hq; injection hq with hq; subst hq
  have hown : Owned ρ σ p.b := ⟨n, p, by simp [hn], hp, rfl⟩
  have hother : ∀ b, b ≠ p.b → (w.setRow p.b (xs' ++ ys').toArray).heap[b]? = w.heap[b]? := fun b hb => by
    simp [World.setRow, Array.getElem?_modify, Ne.symm hb]
  have hmem : ∀ a x, M a = some x → (w.setRow p.b (xs' ++ ys').toArray).cell? a = some x := fun a x hx => by
    have hne : a.block ≠ p.b := fun e => by rw [hm a e] at hx; cases hx
    have := h.mem a x hx
    rw [← this]; unfold World.cell?; rw [hother _ hne]
  refine ⟨h.put .refl hmem hp ⟨h0, xs', ys', T, setRow_heap w p.b cur _ T _ hh, ⟨hv, hk⟩, hm⟩ (fun m q hne hm' hq => ?_), ?_⟩
  · have : q.b ≠ p.b := fun e => hne (h.inj m n q p hm' (by simp [hn]) hq hp e)
    exact ⟨this, hother _ this, fun a _ ha => ha⟩
  · refine ⟨.refl, by simp [World.setRow], rfl, rfl, rfl, fun b _ hb => hother b (fun e => hb (e ▸ hown)), fun b hb => ?_, fun a ha => .inl ha, fun m p hm hp => (by rw [hm] at hp; cases hp), ?dom⟩
    case dom =>
      intro m hm
      by_cases e : m = n
      · subst e; exact .inl (by simp [hn])
      · rw [Store.up_get, if_neg e] at hm; exact .inl hm
    obtain ⟨m, q, hm', hq, rfl⟩ := hb
    by_cases e : m = n
    · subst e; rw [hp] at hq; injection hq with hq; subst hq; exact .inr hown
    · rw [Store.up_get, if_neg e] at hm'; exact .inr ⟨m, q, hm', hq, rfl⟩

/-- Memory that has come to be stable: the first m cells of block b. -/
def Mem.with (M : Mem) (b : Nat) (xs : List Value) (m : Nat) : Mem := fun a => if a.block = b ∧ a.spot = none ∧ a.off < m then xs[a.off]? else M a
theorem Mem.with_get {M : Mem} {b : Nat} {xs : List Value} {m i : Nat} (h : i < m) : (M.with b xs m) ⟨b, i, none⟩ = xs[i]? := by simp [Mem.with, h]
theorem Mem.grows_with {ρ : Names} {M : Mem} {b : Nat} {xs : List Value} {m : Nat} (h : ∀ (i : Nat) (x : Value), i < m → M ⟨b, i, none⟩ = some x → xs[i]? = some x) : Grows ρ M ρ (M.with b xs m) :=
  ⟨fun _ _ h => h, fun a x hx => by
    unfold Mem.with
    split
    · rename_i hc
      obtain ⟨h1, h2, h3⟩ := hc
      have : a = ⟨b, a.off, none⟩ := by cases a; simp_all
      exact h a.off x h3 (by rw [← this]; exact hx)
    · exact hx⟩

/-- A new block, stable from the beginning in its first m cells; what follows is left to a token (or to nobody). -/
theorem Rel.alloc_stable {ρ : Names} {M : Mem} {σ : Store} {w : World} {NS : Nm → Prop} (xs : List Value) (T : TypeId) (m : Nat) (h : Rel ρ M σ w) :
    Rel ρ (M.with w.heap.size xs m) σ (w.alloc (.cells xs.toArray T)) ∧ Evo NS ρ M σ w ρ (M.with w.heap.size xs m) σ (w.alloc (.cells xs.toArray T)) := by
  have hg : Grows ρ M ρ (M.with w.heap.size xs m) := Mem.grows_with (fun i x _ hx => by
    rw [h.mem_none (a := ⟨w.heap.size, i, none⟩) (Nat.le_refl _)] at hx; cases hx)
  have hnew : ∀ a : Addr, a.block ≠ w.heap.size → (M.with w.heap.size xs m) a = M a := fun a ha => by simp [Mem.with, ha]
  refine ⟨h.stay hg (fun a x hx => ?_) (fun n p hn hp => ?_), hg, by simp, rfl, rfl, rfl, fun b hb _ => heap_alloc_old _ _ hb, fun b hb => .inr hb, fun a ha => ?_, fun n p hn hp => (by rw [hn] at hp; cases hp), fun _ h => .inl h⟩
  · by_cases e : a.block = w.heap.size
    · unfold Mem.with at hx
      split at hx
      · rename_i hc
        unfold World.cell?
        rw [e, heap_alloc_new]
        simp [hc.2.1, hx]
      · rw [h.mem_none (by omega)] at hx; cases hx
    · rw [hnew a e] at hx
      exact cell?_alloc_mono (h.mem a x hx)
  · have hlt := h.owned_lt ⟨n, p, hn, hp, rfl⟩
    exact ⟨heap_alloc_old _ _ hlt, fun a ha hs => by rwa [hnew a (by omega)] at hs⟩
  · by_cases e : a.block = w.heap.size
    · exact .inr (.inl (by omega))
    · rw [hnew a e] at ha; exact .inl ha

/-- .. with a token for what follows. -/
theorem Rel.alloc_tok {ρ : Names} {M : Mem} {σ : Store} {w : World} {NS : Nm → Prop} {n : Nm} (xs : List Value) (T : TypeId) (m k : Nat) (h : Rel ρ M σ w) (hn : ρ n = none) (hN : NS n) (hk : m + k ≤ xs.length) :
    Rel (ρ.up n ⟨w.heap.size, m, k⟩) (M.with w.heap.size xs m) (σ.up n .tok) (w.alloc (.cells xs.toArray T)) ∧
      Evo NS ρ M σ w (ρ.up n ⟨w.heap.size, m, k⟩) (M.with w.heap.size xs m) (σ.up n .tok) (w.alloc (.cells xs.toArray T)) := by
  obtain ⟨hr, he⟩ := h.alloc_stable (NS := NS) xs T m
  have hg := Names.grows_up ρ (M.with w.heap.size xs m) n ⟨w.heap.size, m, k⟩ hn
  refine ⟨hr.put hg hr.mem (Names.up_same ..) ⟨xs.toArray, T, heap_alloc_new _ _, by simpa using hk, fun a ha ho => ?_⟩ (fun j p hne hj hp => ?_), ?_⟩
  · have : ¬ a.off < m := by simpa using ho
    simp only [Mem.with, this, and_false, if_false]
    exact h.mem_none (by rw [ha]; exact Nat.le_refl _)
  · have hlt := h.owned_lt ⟨j, p, hj, hp, rfl⟩
    exact ⟨Nat.ne_of_lt hlt, rfl, fun a _ ha => ha⟩
  · refine ⟨he.grows.trans hg, he.size, he.os, he.tape, he.output, he.keep, fun b hb => ?_, he.memNew, fun j p hj hp => ?_, ?dom⟩
    case dom =>
      intro j hj
      by_cases e : j = n
      · subst e; exact .inr hN
      · rw [Store.up_get, if_neg e] at hj; exact .inl hj
    · obtain ⟨j, p, hj, hp, rfl⟩ := hb
      by_cases e : j = n
      · subst e; rw [Names.up_same] at hp; injection hp with hp; subst hp; exact .inl (Nat.le_refl _)
      · rw [Names.up_ne _ _ e] at hp; rw [Store.up_get, if_neg e] at hj; exact .inr ⟨j, p, hj, hp, rfl⟩
    · by_cases e : j = n
      · subst e; exact hN
      · rw [Names.up_ne _ _ e, hj] at hp; cases hp

end Go.Abs

/- Operations on abstract values, and that the machine's operations do the same. -/
set_option linter.unusedVariables false
set_option linter.unusedSimpArgs false
namespace Go.Abs

/-! ### Values -/
def ofCell : Value → AV
  | .int k n => .int k n
  | .bool b => .bool b
  | .string s => .str s
  | .pointer none => .nilptr
  | .slice none 0 0 => .sl 0 [] .nil
  | .map none => .nilmap
  | .nilFunc => .nilfn
  | .nilIface => .nilifc
  | _ => .any
def ofValue : Value → AV
  | .agg cs => .agg (cs.toList.map ofCell)
  | v => ofCell v
theorem VR.ofCell (ρ : Names) (M : Mem) (v : Value) : VR ρ M (ofCell v) v := by
  unfold Abs.ofCell
  split
  · exact .int _ _
  · exact .bool _
  · exact .str _
  · exact .nilptr
  · exact .slnil (.inr (.inr rfl))
  · exact .nilmap
  · exact .nilfn
  · exact .nilifc
  · exact .any _
theorem VRs.ofCells (ρ : Names) (M : Mem) (vs : List Value) : VRs ρ M (vs.map ofCell) vs :=
  ⟨by simp, fun i v x hv hx => by
    rw [List.getElem?_map, hx] at hv; simp at hv; subst hv; exact .ofCell ρ M x⟩
theorem VR.ofValue (ρ : Names) (M : Mem) (v : Value) : VR ρ M (ofValue v) v := by
  unfold Abs.ofValue
  split
  · rename_i cs
    exact VR.agg_iff.2 ⟨cs.toList, by simp, .ofCells ρ M _⟩
  · exact .ofCell ρ M v

/-- The cells of a value. -/
def AV.cells? : AV → Option (List AV)
  | .agg cs => some cs
  | .any => none
  | .tup _ => none
  | v => some [v]
theorem VR.cells {ρ : Names} {M : Mem} {v : AV} {x : Value} {cs : List AV} (h : VR ρ M v x) (hc : v.cells? = some cs) : VRs ρ M cs x.cells.toList := by
  cases h <;> simp only [AV.cells?, Option.some.injEq, reduceCtorEq] at hc
  case agg xs hl h => subst hc; exact ⟨by simpa [Value.cells] using hl, fun i v x hv hx => h i v x hv (by simpa [Value.cells] using hx)⟩
  all_goals (subst hc; refine VRs.cons ?_ VRs.nil)
  · exact .int _ _
  · exact .bool _
  · exact .anyb _
  · exact .str _
  · exact .nilptr
  · exact .ptr ‹_›
  · exact .cptr ‹_› ‹_›
  · exact .slnil ‹_›
  · exact .slz _ ‹_›
  · exact .sl ‹_› ‹_› ‹_› ‹_› ‹_› ‹_›
  · exact .slv ‹_› ‹_›
  · exact .map ‹_›
  · exact .nilmap
  · exact .fn ‹_› ‹_› ‹_› ‹_›
  · exact .nilfn
  · exact .ifc ‹_›
  · exact .nilifc

/-- One cell, as a store asks it. -/
def AV.one : AV → Bool
  | .agg _ => false
  | .tup _ => false
  | .any => false
  | _ => true
theorem VR.one {ρ : Names} {M : Mem} {v : AV} {x : Value} (h : VR ρ M v x) (h1 : v.one = true) : x.oneCell' = true := by
  cases h <;> simp_all [AV.one, Value.oneCell']
theorem VRs.one {ρ : Names} {M : Mem} {cs : List AV} {xs : List Value} (h : VRs ρ M cs xs) (h1 : cs.all AV.one = true) : ∀ x ∈ xs, x.oneCell' = true := by
  intro x hx
  obtain ⟨i, hi, rfl⟩ := List.getElem_of_mem hx
  have hi' : i < cs.length := by rw [h.len]; exact hi
  exact (h.get i cs[i] xs[i] (List.getElem?_eq_getElem hi') (List.getElem?_eq_getElem hi)).one (List.all_eq_true.1 h1 _ (List.getElem_mem hi'))

/-! ### Types -/
section
variable (P : Program)
def tySize (t : TypeId) : Option Nat := (P.info? t).map (·.size)
def tyBytes (t : TypeId) : Option Nat := (P.info? t).map (·.bytes)
def tyZero (t : TypeId) : Option (List AV) := (P.info? t).bind fun i => i.zero.map fun z => z.cells.toList.map ofCell
def tyAgg (t : TypeId) : Option Bool := (P.underlying t).map fun d => match d with | .struct _ | .array _ _ => true | _ => false
def tyField (t : TypeId) (f : Nat) : Option (Nat × TypeId) := match P.underlying t with
  | some (.struct fs) => fs[f]?.map fun d => (d.offset, d.type)
  | _ => none
def tyElem (t : TypeId) : Option TypeId := match P.underlying t with
  | some (.slice e) => some e
  | _ => none
def tyStr (t : TypeId) : Bool := match P.underlying t with
  | some .string => true
  | _ => false
def tyArr (t : TypeId) : Option (Nat × TypeId) := match P.underlying t with
  | some (.array n e) => some (n, e)
  | _ => none
end
section
variable {P : Program}
theorem tySize_run {t : TypeId} {k : Nat} (h : tySize P t = some k) (w : World) : (sizeOf t).run P w = .ok k w := by
  unfold tySize at h
  cases hi : P.info? t with
  | none => simp [hi] at h
  | some i => simp [hi] at h; simp [sizeOf, typeInfo, hi, h]
theorem tyAgg_run {t : TypeId} {b : Bool} (h : tyAgg P t = some b) (w : World) : (isAgg t).run P w = .ok b w := by
  unfold tyAgg at h
  cases hd : P.underlying t with
  | none => simp [hd] at h
  | some d =>
    simp [hd] at h
    unfold isAgg
    rw [Sem.run_bind, run_underlying hd w]
    cases d <;> simp_all
theorem tyZero_run {t : TypeId} {z : List AV} (h : tyZero P t = some z) (w : World) : ∃ v : Value, (zeroValue t).run P w = .ok v w ∧ v.cells.toList.map ofCell = z := by
  unfold tyZero at h
  cases hi : P.info? t with
  | none => simp [hi] at h
  | some i =>
    cases hz : i.zero with
    | none => simp [hi, hz] at h
    | some v => exact ⟨v, by simp [zeroValue, typeInfo, hi, hz], by simpa [hi, hz] using h⟩
theorem tyField_run {t : TypeId} {f o : Nat} {ft : TypeId} (h : tyField P t f = some (o, ft)) : ∃ fs fd, P.underlying t = some (.struct fs) ∧ fs[f]? = some fd ∧ fd.offset = o ∧ fd.type = ft := by
  unfold tyField at h
  split at h
  · rename_i fs hd
    cases hf : fs[f]? with
    | none => simp [hf] at h
    | some fd => simp [hf] at h; exact ⟨fs, fd, hd, hf, h.1, h.2⟩
  · cases h
theorem tyElem_run {t e : TypeId} (h : tyElem P t = some e) : P.underlying t = some (.slice e) := by
  unfold tyElem at h; split at h
  · rename_i hd; injection h with h; subst h; exact hd
  · cases h
theorem tyStr_run {t : TypeId} (h : tyStr P t = true) : P.underlying t = some .string := by
  unfold tyStr at h; split at h
  · rename_i hd; exact hd
  · cases h
theorem tyArr_run {t e : TypeId} {n : Nat} (h : tyArr P t = some (n, e)) : P.underlying t = some (.array n e) := by
  unfold tyArr at h; split at h
  · rename_i hd; injection h with h; injection h with h1 h2; subst h1; subst h2; exact hd
  · cases h
end

/-! ### Reading memory -/
/-- k cells from an address on. -/
def aread (σ : Store) (a : AV) (k : Nat) : Option (List AV) :=
  match a with
  | .ptr m i => match σ m with
    | some (.var cs) => if i + k ≤ cs.length then some ((cs.drop i).take k) else none
    | _ => none
  | .cptr cs => if k ≤ cs.length then some (cs.take k) else none
  | _ => none

theorem aread_sound {ρ : Names} {M : Mem} {σ : Store} {w : World} {a : AV} {x : Value} {k : Nat} {cs : List AV} (hr : Rel ρ M σ w) (hv : VR ρ M a x) (h : aread σ a k = some cs) :
    ∃ (b o : Nat) (xs : List Value), x = .pointer (some ⟨b, o, none⟩) ∧ w.rangeAt b o xs ∧ VRs ρ M cs xs ∧ cs.length = k := by
  unfold aread at h
  split at h
  · rename_i m i
    cases hv with
    | ptr hp =>
      rename_i p
      split at h
      · rename_i ds hs
        obtain ⟨q, hq, h0, ys, us, T, hh, ⟨hvs, _⟩, hm⟩ := hr.lies m _ hs
        rw [hp] at hq; injection hq with hq; subst hq
        split at h
        · rename_i hle
          injection h with h; subst h
          refine ⟨p.b, p.o + i, (ys.drop i).take k, rfl, fun j v hj => ?_, (hvs.drop i).take k, by simp; omega⟩
          rw [List.getElem?_take] at hj
          split at hj
          · rw [List.getElem?_drop] at hj
            have hj' : (ys ++ us)[i + j]? = some v := by rw [List.getElem?_append_left (List.getElem?_eq_some_iff.1 hj).1]; exact hj
            unfold World.cell?
            simp only [hh, h0, Nat.zero_add]
            simpa using hj'
          · cases hj
        · cases h
      · cases h
  · rename_i ds
    cases hv with
    | cptr h1 h2 =>
      rename_i b o
      split at h
      · rename_i hle
        injection h with h; subst h
        have hget : ∀ j, j < k → ∃ y, M ⟨b, o + j, none⟩ = some y := fun j hj =>
          Option.isSome_iff_exists.1 (h1 j _ (List.getElem?_eq_getElem (by omega)))
        refine ⟨b, o, (List.range k).map fun j => (M ⟨b, o + j, none⟩).getD undef, rfl, fun j v hj => ?_, ⟨by simp; omega, fun j v y hv hy => ?_⟩, by simp; omega⟩
        · simp only [List.getElem?_map, List.getElem?_range] at hj
          by_cases hjk : j < k
          · obtain ⟨y, hy⟩ := hget j hjk
            simp [List.getElem?_range hjk, hy] at hj
            subst hj
            exact hr.mem _ _ hy
          · rw [List.getElem?_eq_none (by simp; omega)] at hj; cases hj
        · simp only [List.getElem?_map] at hy
          by_cases hjk : j < k
          · obtain ⟨z, hz⟩ := hget j hjk
            simp [List.getElem?_range hjk, hz] at hy
            subst hy
            rw [List.getElem?_take, if_pos hjk] at hv
            exact h2 j v z hv hz
          · rw [List.getElem?_take, if_neg hjk] at hv; cases hv
      · cases h
  · cases h

/-- A variable of type t, read. -/
def aload (P : Program) (σ : Store) (t : TypeId) (a : AV) : Option AV :=
  match tyAgg P t with
  | some true => match tySize P t with
    | some k => (aread σ a k).map .agg
    | none => none
  | some false => match aread σ a 1 with
    | some [v] => some v
    | _ => none
  | none => none

theorem aload_sound {P : Program} {ρ : Names} {M : Mem} {σ : Store} {w : World} {t : TypeId} {a v : AV} {x : Value} (hr : Rel ρ M σ w) (hv : VR ρ M a x) (h : aload P σ t a = some v) :
    ∃ y : Value, (Instr.loadAt t x).run P w = .ok y w ∧ VR ρ M v y := by
  unfold aload at h
  split at h
  · rename_i hagg
    split at h
    · rename_i k hk
      cases hc : aread σ a k with
      | none => simp [hc] at h
      | some cs =>
        simp [hc] at h; subst h
        obtain ⟨b, o, xs, rfl, hrange, hvs, hlen⟩ := aread_sound hr hv hc
        refine ⟨.agg xs.toArray, ?_, VR.agg_iff.2 ⟨xs, rfl, hvs⟩⟩
        have hl := run_loadCells_list (P := P) w ⟨b, o, none⟩ xs (fun j v hv => by rw [Addr.add_mid]; exact hrange j v hv)
        rw [show xs.length = k from by rw [← hvs.len, hlen]] at hl
        simp [Instr.loadAt, Instr.sureAddr, loadVar, tyAgg_run hagg, tySize_run hk, hl]
    · cases h
  · rename_i hagg
    split at h
    · rename_i u hc
      injection h with h; subst h
      obtain ⟨b, o, xs, rfl, hrange, hvs, hlen⟩ := aread_sound hr hv hc
      obtain ⟨y, hy, hvy⟩ := hvs.ex (i := 0) rfl
      refine ⟨y, ?_, hvy⟩
      have hcell : w.cell? ⟨b, o, none⟩ = some y := hrange 0 y hy
      simp [Instr.loadAt, Instr.sureAddr, loadVar, tyAgg_run hagg, hcell]
    · cases h
  · cases h

/-- A variable is stored into. -/
def astore (P : Program) (σ : Store) (t : TypeId) (a x : AV) : Option Store :=
  match a, x.cells?, tySize P t with
  | .ptr m i, some vs, some k => match σ m with
    | some (.var cs) => if vs.length = k ∧ i + k ≤ cs.length ∧ vs.all AV.one = true then some (σ.up m (.var (cs.take i ++ vs ++ cs.drop (i + k)))) else none
    | _ => none
  | _, _, _ => none

theorem astore_sound {P : Program} {ρ : Names} {M : Mem} {σ σ' : Store} {w : World} {t : TypeId} {a v : AV} {x y : Value} {NS : Nm → Prop} (hr : Rel ρ M σ w) (ha : VR ρ M a x) (hv : VR ρ M v y)
    (h : astore P σ t a v = some σ') :
    ∃ w' : World, (Instr.storeAt t x y).run P w = .ok () w' ∧ Rel ρ M σ' w' ∧ Evo NS ρ M σ w ρ M σ' w' := by
  unfold astore at h
  split at h
  · rename_i m i vs k hvs hk
    cases ha with
    | ptr hp =>
      rename_i p
      split at h
      · rename_i cs hs
        split at h
        · rename_i hcond
          obtain ⟨hl, hle, hone⟩ := hcond
          injection h with h; subst h
          obtain ⟨q, hq, h0, ys, us, T, hh, ⟨hys, hpk⟩, hm⟩ := hr.lies m _ hs
          rw [hp] at hq; injection hq with hq; subst hq
          have hvc := hv.cells hvs
          have hysl := hys.len
          have hvcl := hvc.len
          have hrun := run_storeCells_at P p.b (p.o + i) T y.cells.toList 0 (ys ++ us).toArray w hh (by simp at hvcl ⊢; omega) (hvc.one hone)
          have hsz : y.cells.size = k := by simp at hvcl; omega
          have hnew : VRs ρ M (cs.take i ++ vs ++ cs.drop (i + k)) (ys.take i ++ y.cells.toList ++ ys.drop (i + k)) := ((hys.take i).append hvc).append (hys.drop (i + k))
          obtain ⟨h1, h2⟩ := hr.setRow_var (NS := NS) (ys' := us) hs hp hh hnew (by simp at hvcl hpk ⊢; omega)
          refine ⟨_, ?_, h1, h2⟩
          have e1 : (ys ++ us).take i = ys.take i := List.take_append_of_le_length (by omega)
          have e2 : (ys ++ us).drop (i + k) = ys.drop (i + k) ++ us := List.drop_append_of_le_length (by omega)
          simp only [h0, Nat.zero_add, Nat.add_zero] at hrun ⊢
          simp only [List.toList_toArray, Array.length_toList, hsz, e1, e2, ← List.append_assoc] at hrun
          simp [Instr.storeAt, Instr.sureAddr, storeVar, tySize_run hk, hsz, hrun]
        · cases h
      · cases h
  · cases h

end Go.Abs

/- Quiet operations: those that compute a value and leave memory as it is. -/
set_option linter.unusedVariables false
set_option linter.unusedSimpArgs false
namespace Go.Abs

section
variable (P : Program)

/-- A part of an aggregate. -/
def apart (t : TypeId) (cs : List AV) (off : Nat) : Option AV :=
  match tyAgg P t with
  | some true => match tySize P t with
    | some k => some (.agg ((cs.drop off).take k))
    | none => none
  | some false => cs[off]?
  | none => none

def afield (t : TypeId) (x : AV) (f : Nat) : Option AV :=
  match tyField P t f, x with
  | some (o, ft), .agg cs => apart P ft cs o
  | _, _ => none

def afieldAddr (s : TypeId) (x : AV) (f : Nat) : Option AV :=
  match tyField P s f with
  | some (o, ft) => match tySize P ft with
    | some (_ + 1) => match x with
      | .ptr m i => some (.ptr m (i + o))
      | .cptr cs => some (.cptr (cs.drop o))
      | _ => none
    | _ => none
  | none => none

def aindexAddr (t : TypeId) (x i : AV) : Option AV :=
  match i with
  | .int _ i => match x with
    | .sl sz es _ => match tyElem P t with
      | some e => if tySize P e = some sz ∧ 0 ≤ i then (es[i.toNat]?).map .cptr else none
      | none => none
    | .slv m sz len => match tyElem P t with
      | some e => if tySize P e = some sz ∧ 0 ≤ i ∧ i < len then some (.ptr m (i.toNat * sz)) else none
      | none => none
    | .ptr m j => match tyArr P t with
      | some (n, e) => match tySize P e with
        | some k => if 0 ≤ i ∧ i < n then some (.ptr m (j + i.toNat * k)) else none
        | none => none
      | none => none
    | .cptr cs => match tyArr P t with
      | some (n, e) => match tySize P e with
        | some k => if 0 ≤ i ∧ i < n then some (.cptr (cs.drop (i.toNat * k))) else none
        | none => none
      | none => none
    | _ => none
  | _ => none

def aindex (t : TypeId) (x i : AV) : Option AV :=
  match i with
  | .int _ i => match x with
    | .agg cs => match tyArr P t with
      | some (n, e) => match tySize P e with
        | some k => if 0 ≤ i ∧ i < n then apart P e cs (i.toNat * k) else none
        | none => none
      | none => none
    | .str s => if tyStr P t = true ∧ 0 ≤ i then (s[i.toNat]?).map fun b => .int .u8 b.toNat else none
    | _ => none
  | _ => none

/-- The places of the parts of an aggregate: a struct's offsets and sizes; an array's elements' size. -/
def tyPlaces (t : TypeId) : Option (List (Nat × Nat) ⊕ Nat) :=
  match P.underlying t with
  | some (.struct fs) => (fs.toList.mapM (fun f => (P.info? f.type).map fun i => (f.offset, i.size))).map .inl
  | some (.array _ e) => (tySize P e).map .inr
  | _ => none
def placeOf : List (Nat × Nat) ⊕ Nat → Nat → Option (Nat × Nat)
  | .inl l => fun i => l[i]?
  | .inr k => fun i => some (i * k, k)
def afill (place : Nat → Option (Nat × Nat)) (cells : List AV) : List (Nat × AV) → Option (List AV)
  | [] => some cells
  | (i, v) :: rest => match place i, v.cells? with
    | some (off, size), some vs => if vs.length = size ∧ off + size ≤ cells.length then afill place (cells.take off ++ vs ++ cells.drop (off + size)) rest else none
    | _, _ => none

end

section
variable {P : Program}

theorem apart_sound {ρ : Names} {M : Mem} {w : World} {t : TypeId} {cs : List AV} {xs : List Value} {off : Nat} {v : AV} (hv : VRs ρ M cs xs) (h : apart P t cs off = some v) :
    ∃ y : Value, (part t xs.toArray off).run P w = .ok y w ∧ VR ρ M v y := by
  unfold apart at h
  split at h
  · rename_i hagg
    split at h
    · rename_i k hk
      injection h with h; subst h
      refine ⟨.agg ((xs.drop off).take k).toArray, ?_, VR.agg_iff.2 ⟨_, rfl, (hv.drop off).take k⟩⟩
      simp [part, tyAgg_run hagg, tySize_run hk]
    · cases h
  · rename_i hagg
    obtain ⟨y, hy, hvy⟩ := hv.ex h
    exact ⟨y, by simp [part, tyAgg_run hagg, hy], hvy⟩
  · cases h

theorem afield_sound {ρ : Names} {M : Mem} {w : World} {t : TypeId} {x v : AV} {y : Value} {f : Nat} (hv : VR ρ M x y) (h : afield P t x f = some v) :
    ∃ z : Value, (Instr.field t y f).run P w = .ok z w ∧ VR ρ M v z := by
  unfold afield at h
  split at h
  · rename_i o ft cs hf
    obtain ⟨fs, fd, hu, hfd, rfl, rfl⟩ := tyField_run hf
    obtain ⟨xs, rfl, hvs⟩ := VR.agg_iff.1 hv
    obtain ⟨z, hz, hvz⟩ := apart_sound (w := w) hvs h
    exact ⟨z, by simp [Instr.field, run_underlying hu, hfd, asAgg, hz], hvz⟩
  · cases h

theorem afieldAddr_sound {ρ : Names} {M : Mem} {w : World} {t : TypeId} {x v : AV} {y : Value} {f : Nat} (hv : VR ρ M x y) (h : afieldAddr P t x f = some v) :
    ∃ z : Value, (Instr.fieldAt t y f).run P w = .ok z w ∧ VR ρ M v z := by
  unfold afieldAddr at h
  split at h
  · rename_i o ft hf
    obtain ⟨fs, fd, hu, hfd, rfl, rfl⟩ := tyField_run hf
    split at h
    · rename_i k hk
      split at h
      · rename_i m i
        injection h with h; subst h
        cases hv with
        | ptr hp =>
          rename_i p
          refine ⟨.pointer (some ⟨p.b, p.o + (i + fd.offset), none⟩), ?_, .ptr hp⟩
          simp [Instr.fieldAt, run_underlying hu, hfd, Instr.sureAddr, fieldPlace, tySize_run hk, Addr.add_mid, Nat.add_assoc]
      · rename_i cs
        injection h with h; subst h
        cases hv with
        | cptr h1 h2 =>
          rename_i b o
          refine ⟨.pointer (some ⟨b, o + fd.offset, none⟩), ?_, .cptr (fun j v hj => ?_) (fun j v z hj hz => ?_)⟩
          · simp [Instr.fieldAt, run_underlying hu, hfd, Instr.sureAddr, fieldPlace, tySize_run hk, Addr.add_mid]
          · rw [List.getElem?_drop] at hj; have := h1 _ v hj; rwa [← Nat.add_assoc] at this
          · rw [List.getElem?_drop] at hj; exact h2 _ v z hj (by rwa [← Nat.add_assoc])
      · cases h
    · cases h
  · cases h

theorem aindexAddr_sound {ρ : Names} {M : Mem} {w : World} {t : TypeId} {x i v : AV} {y j : Value} (hv : VR ρ M x y) (hi : VR ρ M i j) (h : aindexAddr P t x i = some v) :
    ∃ z : Value, (Instr.indexAt t y j).run P w = .ok z w ∧ VR ρ M v z := by
  unfold aindexAddr at h
  split at h
  · rename_i k i
    cases hi
    split at h
    · rename_i sz es c
      split at h
      · rename_i e he
        split at h
        · rename_i hc
          obtain ⟨hsz, h0⟩ := hc
          cases hes : es[i.toNat]? with
          | none => simp [hes] at h
          | some el =>
            simp [hes] at h; subst h
            have hlt : i.toNat < es.length := (List.getElem?_eq_some_iff.1 hes).1
            cases hv with
            | slnil _ => simp at hlt
            | slz _ _ => simp at hlt
            | sl hsz' hcap hcc ht h1 h2 =>
              rename_i b o cap
              have hli : i < (es.length : Int) := by omega
              refine ⟨.pointer (some ⟨b, o + i.toNat * sz, none⟩), ?_, .cptr (fun j v hj => h1 _ _ _ _ hes hj) (fun j v z hj hz => h2 _ _ _ _ z hes hj hz)⟩
              simp [Instr.indexAt, run_underlying (tyElem_run he), asIntOf, h0, hli, tySize_run hsz, Addr.add_mid]
        · cases h
      · cases h
    · rename_i m sz len
      split at h
      · rename_i e he
        split at h
        · rename_i hc
          obtain ⟨hsz, h0, hl⟩ := hc
          injection h with h; subst h
          cases hv with
          | slv hp hcap =>
            rename_i cap p
            refine ⟨.pointer (some ⟨p.b, p.o + i.toNat * sz, none⟩), ?_, .ptr hp⟩
            simp [Instr.indexAt, run_underlying (tyElem_run he), asIntOf, h0, hl, tySize_run hsz, Addr.add_mid]
        · cases h
      · cases h
    · rename_i m j
      split at h
      · rename_i n e he
        split at h
        · rename_i k hk
          split at h
          · rename_i hc
            injection h with h; subst h
            cases hv with
            | ptr hp =>
              rename_i p
              refine ⟨.pointer (some ⟨p.b, p.o + (j + i.toNat * k), none⟩), ?_, .ptr hp⟩
              simp [Instr.indexAt, run_underlying (tyArr_run he), asIntOf, hc, Instr.sureAddr, tySize_run hk, Addr.add_mid, Nat.add_assoc]
          · cases h
        · cases h
      · cases h
    · rename_i cs
      split at h
      · rename_i n e he
        split at h
        · rename_i k hk
          split at h
          · rename_i hc
            injection h with h; subst h
            cases hv with
            | cptr h1 h2 =>
              rename_i b o
              refine ⟨.pointer (some ⟨b, o + i.toNat * k, none⟩), ?_, .cptr (fun j v hj => ?_) (fun j v z hj hz => ?_)⟩
              · simp [Instr.indexAt, run_underlying (tyArr_run he), asIntOf, hc, Instr.sureAddr, tySize_run hk, Addr.add_mid]
              · rw [List.getElem?_drop] at hj; have := h1 _ v hj; rwa [← Nat.add_assoc] at this
              · rw [List.getElem?_drop] at hj; exact h2 _ v z hj (by rwa [← Nat.add_assoc])
          · cases h
        · cases h
      · cases h
    · cases h
  · cases h

theorem aindex_sound {ρ : Names} {M : Mem} {w : World} {t : TypeId} {x i v : AV} {y j : Value} (hv : VR ρ M x y) (hi : VR ρ M i j) (h : aindex P t x i = some v) :
    ∃ z : Value, (Instr.index t y j).run P w = .ok z w ∧ VR ρ M v z := by
  unfold aindex at h
  split at h
  · rename_i k i
    cases hi
    split at h
    · rename_i cs
      split at h
      · rename_i n e he
        split at h
        · rename_i k hk
          split at h
          · rename_i hc
            obtain ⟨xs, rfl, hvs⟩ := VR.agg_iff.1 hv
            obtain ⟨z, hz, hvz⟩ := apart_sound (w := w) hvs h
            exact ⟨z, by simp [Instr.index, run_underlying (tyArr_run he), asIntOf, hc, tySize_run hk, hz], hvz⟩
          · cases h
        · cases h
      · cases h
    · rename_i s
      split at h
      · rename_i hc
        cases hb : s[i.toNat]? with
        | none => simp [hb] at h
        | some b =>
          simp [hb] at h; subst h
          cases hv
          exact ⟨.int .u8 b.toNat, by simp [Instr.index, run_underlying (tyStr_run hc.1), asIntOf, hc.2, hb], .int _ _⟩
      · cases h
    · cases h
  · cases h

theorem setIfInBounds_foldl (vs : List Value) (off : Nat) : ∀ (j : Nat) (cells : Array Value), off + j + vs.length ≤ cells.size →
    ((vs.zipIdx j).foldl (fun cs (c, j) => cs.setIfInBounds (off + j) c) cells).toList = cells.toList.take (off + j) ++ vs ++ cells.toList.drop (off + j + vs.length) := by
  induction vs with
  | nil => intro j cells _; simp
  | cons v vs ih =>
    intro j cells h
    simp only [List.zipIdx_cons, List.foldl_cons]
    have hl : off + (j + 1) + vs.length ≤ (cells.setIfInBounds (off + j) v).size := by simp at h ⊢; omega
    rw [ih (j + 1) _ hl]
    have e := list_seg_step cells.toList (off + j) v vs (by simp at h ⊢; omega)
    simp only [Array.toList_setIfInBounds]
    simpa [Nat.add_assoc] using e

theorem afill_sound {ρ : Names} {M : Mem} {place : Nat → Option (Nat × Nat)} : ∀ (ps : List (Nat × AV)) (qs : List (Nat × Value)) (cells out : List AV) (xs : List Value),
    ps.length = qs.length → (∀ (i : Nat) (p : Nat × AV) (q : Nat × Value), ps[i]? = some p → qs[i]? = some q → p.1 = q.1 ∧ VR ρ M p.2 q.2) → VRs ρ M cells xs → afill place cells ps = some out →
    ∃ ys : List Value, Instr.fill place xs.toArray qs = some ys.toArray ∧ VRs ρ M out ys
  | [], [], cells, out, xs, _, _, hv, h => by
    simp only [afill, Option.some.injEq] at h; subst h
    exact ⟨xs, rfl, hv⟩
  | (i, v) :: ps, (i', y) :: qs, cells, out, xs, hl, hp, hv, h => by
    obtain ⟨rfl, hvy⟩ := hp 0 _ _ rfl rfl
    simp only [afill] at h
    split at h
    · rename_i off size vs hpl hvs
      split at h
      · rename_i hc
        obtain ⟨hc1, hc2⟩ := hc
        have hvc := hvy.cells hvs
        have hvl := hvc.len
        have hxl := hv.len
        have hsz : y.cells.size = size := by simp at hvl; omega
        have hfold := setIfInBounds_foldl y.cells.toList off 0 xs.toArray (by simp; omega)
        obtain ⟨ys, hys, hvys⟩ := afill_sound ps qs (cells.take off ++ vs ++ cells.drop (off + size)) out (xs.take off ++ y.cells.toList ++ xs.drop (off + size)) (by simpa using hl)
          (fun i p q h1 h2 => hp (i + 1) p q (by simpa using h1) (by simpa using h2)) (((hv.take off).append hvc).append (hv.drop _)) h
        refine ⟨ys, ?_, hvys⟩
        have hcells : y.cells.zipIdx.foldl (fun cs (c, j) => cs.setIfInBounds (off + j) c) xs.toArray = (xs.take off ++ y.cells.toList ++ xs.drop (off + size)).toArray := by
          apply Array.ext'
          rw [← Array.foldl_toList]
          simp only [Nat.add_zero, List.toList_toArray, Array.length_toList, hsz] at hfold
          rw [Array.toList_zipIdx]
          exact hfold
        have hg1 : ¬ off + size > xs.length := by omega
        simp only [Instr.fill, hpl, hsz, List.size_toArray]
        simp only [ne_eq, not_true_eq_false, hg1, or_self, if_false, decide_false, Bool.or_self, Bool.false_eq_true]
        rw [hcells]
        simpa using hys
      · cases h
    · cases h
  | [], _ :: _, _, _, _, h, _, _, _ => by simp at h
  | _ :: _, [], _, _, _, h, _, _, _ => by simp at h

end
end Go.Abs

/- Quiet operations, all together. -/
set_option linter.unusedVariables false
set_option linter.unusedSimpArgs false
namespace Go.Abs

/-! ### Equality -/
mutual
def aeq (P : Program) : Nat → TypeId → AV → AV → Option Bool
  | 0, _, _, _ => none
  | d + 1, t, x, y => match P.underlying t with
    | some .bool => match x, y with
      | .bool a, .bool b => some (a == b)
      | _, _ => none
    | some (.int _) => match x, y with
      | .int k a, .int k' b => if k = k' then some (a == b) else none
      | _, _ => none
    | some .string => match x, y with
      | .str a, .str b => some (a == b)
      | _, _ => none
    | some (.pointer _) => match x, y with
      | .nilptr, .nilptr => some true
      | .nilptr, .ptr _ _ => some false
      | .nilptr, .cptr _ => some false
      | .ptr _ _, .nilptr => some false
      | .cptr _, .nilptr => some false
      | _, _ => none
    | some (.func _ _ _) => match x, y with
      | .nilfn, .nilfn => some true
      | .nilfn, .fn _ _ _ => some false
      | .fn _ _ _, .nilfn => some false
      | _, _ => none
    | some (.map _ _) => match x, y with
      | .nilmap, .nilmap => some true
      | .nilmap, .map _ => some false
      | .map _, .nilmap => some false
      | _, _ => none
    | some (.interface _) => match x, y with
      | .nilifc, .nilifc => some true
      | .nilifc, .ifc _ _ => some false
      | .ifc _ _, .nilifc => some false
      | _, _ => none
    | some (.struct fs) => match x, y with
      | .agg xs, .agg ys => if P.stoodInHeld t = false then aeqFields P d xs ys fs.toList else none
      | _, _ => none
    | some (.array n e) => match x, y with
      | .agg xs, .agg ys => match tySize P e with
        | some k => aeqElems P d e k xs ys (List.range n)
        | none => none
      | _, _ => none
    | _ => none
def aeqFields (P : Program) : Nat → List AV → List AV → List Field → Option Bool
  | _, _, _, [] => some true
  | d, xs, ys, f :: fs =>
    if f.name ≠ "_" then
      match apart P f.type xs f.offset, apart P f.type ys f.offset with
      | some a, some b => match aeq P d f.type a b, aeqFields P d xs ys fs with
        | some r, some r' => some (r && r')
        | _, _ => none
      | _, _ => none
    else aeqFields P d xs ys fs
def aeqElems (P : Program) : Nat → TypeId → Nat → List AV → List AV → List Nat → Option Bool
  | _, _, _, _, _, [] => some true
  | d, e, k, xs, ys, i :: is =>
    match apart P e xs (i * k), apart P e ys (i * k) with
    | some a, some b => match aeq P d e a b, aeqElems P d e k xs ys is with
      | some r, some r' => some (r && r')
      | _, _ => none
    | _, _ => none
end

section
variable {P : Program} {ρ : Names} {M : Mem} {w : World}
set_option maxHeartbeats 2000000 in
mutual
theorem aeq_sound : ∀ (d D : Nat) (t : TypeId) (x y : AV) (r : Bool) (x' y' : Value), d ≤ D → VR ρ M x x' → VR ρ M y y' → aeq P d t x y = some r → (Op.equalIn D t x' y').run P w = .ok r w
  | 0, _, _, _, _, _, _, _, _, _, _, h => by simp [aeq] at h
  | d + 1, D, t, x, y, r, x', y', hD, hx, hy, h => by
    obtain ⟨D, rfl⟩ : ∃ D', D = D' + 1 := ⟨D - 1, by omega⟩
    have hD' : d ≤ D := by omega
    unfold aeq at h
    split at h
    · rename_i hu
      split at h
      · injection h with h; subst h; cases hx; cases hy
        exact run_equalIn_bool w D t _ _ hu
      · cases h
    · rename_i kk hu
      split at h
      · split at h
        · injection h with h; subst h; cases hx; cases hy
          rename_i e; subst e
          exact run_equalIn_int w D t _ _ _ _ hu
        · cases h
      · cases h
    · rename_i hu
      split at h
      · injection h with h; subst h; cases hx; cases hy
        rw [run_equalIn_string w D t _ _ hu, beq_toListBytes]
      · cases h
    · rename_i el hu
      split at h <;> first | (cases h; done) | (injection h with h; subst h; cases hx; cases hy; simp [Op.equalIn, run_underlying hu])
    · rename_i a b c hu
      split at h <;> first | (cases h; done) | (injection h with h; subst h; cases hx; cases hy; simp [Op.equalIn, run_underlying hu])
    · rename_i a b hu
      split at h <;> first | (cases h; done) | (injection h with h; subst h; cases hx; cases hy; simp [Op.equalIn, run_underlying hu])
    · rename_i a hu
      split at h <;> first | (cases h; done) | (injection h with h; subst h; cases hx; cases hy; simp [Op.equalIn, run_underlying hu])
    · rename_i fs hu
      split at h
      · rename_i xs ys
        split at h
        · rename_i hs
          obtain ⟨xv, rfl, hxv⟩ := VR.agg_iff.1 hx
          obtain ⟨yv, rfl, hyv⟩ := VR.agg_iff.1 hy
          have hf : P.fieldsOf t = fs := by simp [Program.fieldsOf, hu]
          rw [run_equalIn_struct w D t _ _ (by rw [hf]; exact hu) hs, hf]
          exact aeqFields_sound d D xs ys fs.toList r xv yv hD' hxv hyv h
        · cases h
      · cases h
    · rename_i n e hu
      split at h
      · rename_i xs ys
        split at h
        · rename_i k hk
          obtain ⟨xv, rfl, hxv⟩ := VR.agg_iff.1 hx
          obtain ⟨yv, rfl, hyv⟩ := VR.agg_iff.1 hy
          have hk' : P.cellsOf e = k := by simpa [Program.cellsOf, tySize] using congrArg (Option.getD · 0) hk
          cases hi : P.info? e with
          | none => simp [tySize, hi] at hk
          | some i =>
            rw [run_equalIn_array w D _ _ hu hi, hk']
            exact aeqElems_sound d D e k xs ys (List.range n) r xv yv hD' hxv hyv h
        · cases h
      · cases h
    · cases h
theorem aeqFields_sound : ∀ (d D : Nat) (xs ys : List AV) (fs : List Field) (r : Bool) (xv yv : List Value), d ≤ D → VRs ρ M xs xv → VRs ρ M ys yv → aeqFields P d xs ys fs = some r →
    (Op.eqFields D xv.toArray yv.toArray fs).run P w = .ok r w
  | d, D, xs, ys, [], r, xv, yv, hD, hx, hy, h => by
    simp only [aeqFields, Option.some.injEq] at h; subst h; simp [Op.eqFields]
  | d, D, xs, ys, f :: fs, r, xv, yv, hD, hx, hy, h => by
    unfold aeqFields at h
    split at h
    · rename_i hn
      split at h
      · rename_i a b ha hb
        split at h
        · rename_i r1 r2 h1 h2
          injection h with h; subst h
          obtain ⟨av, hav, hva⟩ := apart_sound (w := w) hx ha
          obtain ⟨bv, hbv, hvb⟩ := apart_sound (w := w) hy hb
          have e1 := aeq_sound d D f.type a b r1 av bv hD hva hvb h1
          have e2 := aeqFields_sound d D xs ys fs r2 xv yv hD hx hy h2
          unfold Op.eqFields
          rw [if_pos hn]
          simp only [Sem.run_bind, hav, hbv, e1, Result.andThen_ok]
          cases r1
          · simp
          · simpa using e2
        · cases h
      · cases h
    · rename_i hn
      unfold Op.eqFields
      rw [if_neg hn]
      exact aeqFields_sound d D xs ys fs r xv yv hD hx hy h
theorem aeqElems_sound : ∀ (d D : Nat) (e : TypeId) (k : Nat) (xs ys : List AV) (is : List Nat) (r : Bool) (xv yv : List Value), d ≤ D → VRs ρ M xs xv → VRs ρ M ys yv → aeqElems P d e k xs ys is = some r →
    (Op.eqItems D e k xv.toArray yv.toArray is).run P w = .ok r w
  | d, D, e, k, xs, ys, [], r, xv, yv, hD, hx, hy, h => by
    simp only [aeqElems, Option.some.injEq] at h; subst h; simp [Op.eqItems]
  | d, D, e, k, xs, ys, i :: is, r, xv, yv, hD, hx, hy, h => by
    unfold aeqElems at h
    split at h
    · rename_i a b ha hb
      split at h
      · rename_i r1 r2 h1 h2
        injection h with h; subst h
        obtain ⟨av, hav, hva⟩ := apart_sound (w := w) hx ha
        obtain ⟨bv, hbv, hvb⟩ := apart_sound (w := w) hy hb
        have e1 := aeq_sound d D e a b r1 av bv hD hva hvb h1
        have e2 := aeqElems_sound d D e k xs ys is r2 xv yv hD hx hy h2
        unfold Op.eqItems
        simp only [Sem.run_bind, hav, hbv, e1, Result.andThen_ok]
        cases r1
        · simp
        · simpa using e2
      · cases h
    · cases h
end
end

end Go.Abs

/- Quiet operations, all together. -/
set_option linter.unusedVariables false
set_option linter.unusedSimpArgs false
namespace Go.Abs

def aint (op : BinOp) (k k' : IntKind) (a b : Int) : Option AV :=
  match op with
  | .shl => if 0 ≤ b ∧ b ≤ k.bits then some (.int k (k.wrap (a * 2 ^ b.toNat))) else none
  | .shr => if 0 ≤ b ∧ b ≤ k.bits then some (.int k (a / 2 ^ b.toNat)) else none
  | .add => if k = k' then some (.int k (k.wrap (a + b))) else none
  | .sub => if k = k' then some (.int k (k.wrap (a - b))) else none
  | .mul => if k = k' then some (.int k (k.wrap (a * b))) else none
  | .quo => if k = k' ∧ ¬ b = 0 then some (.int k (k.wrap (a.tdiv b))) else none
  | .rem => if k = k' ∧ ¬ b = 0 then some (.int k (a.tmod b)) else none
  | .and => if k = k' then some (.int k (bits .and k a b)) else none
  | .or => if k = k' then some (.int k (bits .or k a b)) else none
  | .xor => if k = k' then some (.int k (bits .xor k a b)) else none
  | .andNot => if k = k' then some (.int k (bits .andNot k a b)) else none
  | .eql => if k = k' then some (.bool (a == b)) else none
  | .neq => if k = k' then some (.bool (a != b)) else none
  | .lss => if k = k' then some (.bool (decide (a < b))) else none
  | .leq => if k = k' then some (.bool (decide (a ≤ b))) else none
  | .gtr => if k = k' then some (.bool (decide (a > b))) else none
  | .geq => if k = k' then some (.bool (decide (a ≥ b))) else none

def astr (op : BinOp) (a b : ByteArray) : Option AV :=
  match op with
  | .add => if a.size + b.size ≤ 9223372036854775807 then some (.str (a ++ b)) else none
  | .eql => some (.bool (a == b))
  | .neq => some (.bool (!(a == b)))
  | .lss => some (.bool (Op.bytesLess a.toList b.toList))
  | .leq => some (.bool (Op.bytesLess a.toList b.toList || a == b))
  | .gtr => some (.bool !(Op.bytesLess a.toList b.toList || a == b))
  | .geq => some (.bool !(Op.bytesLess a.toList b.toList))
  | _ => none

def isConst : Operand → Bool
  | .const _ => true
  | _ => false

def aguard (P : Program) (t : TypeId) (xo yo : Operand) (x y : AV) : Bool :=
  match x, y with
  | .bool _, _ => true
  | .nilptr, _ => true
  | .ptr _ _, _ => true
  | .cptr _, _ => true
  | .nilmap, _ => true
  | .map _, _ => true
  | .nilfn, _ => true
  | .fn _ _ _, _ => true
  | .ifc _ _, _ => true
  | .nilifc, .ifc _ _ => true
  | .nilifc, .nilifc => isConst xo || isConst yo
  | .agg _, .agg _ => !P.eqGuardType P.depth t
  | _, _ => false

/-- Is a slice nil? -/
def slNil (es : List (List AV)) (c : Cap) : AV := match c with
  | .nil => .bool true
  | .tok _ => .bool false
  | _ => if es.isEmpty = true then .anyb else .bool false

def abin (P : Program) (op : BinOp) (t : TypeId) (xo yo : Operand) (x y : AV) : Option AV :=
  match x, y with
  | .int k a, .int k' b => aint op k k' a b
  | .str a, .str b => astr op a b
  | .sl _ es c, .sl _ _ .nil => if (tyElem P t).isSome = true then
      match op with
      | .eql => some (slNil es c)
      | .neq => some (match slNil es c with | .bool b => .bool (!b) | v => v)
      | _ => none
    else none
  | .slv _ _ _, .sl _ _ .nil => if (tyElem P t).isSome = true then
      match op with
      | .eql => some (.bool false)
      | .neq => some (.bool true)
      | _ => none
    else none
  | x, y => if aguard P t xo yo x y = true then
      match op with
      | .eql => (aeq P 9 t x y).map .bool
      | .neq => (aeq P 9 t x y).map fun b => .bool (!b)
      | _ => none
    else none

def aun (op : UnOp) (x : AV) : Option AV :=
  match op, x with
  | .neg, .int k n => some (.int k (k.wrap (0 - n)))
  | .not, .bool b => some (.bool (!b))
  | .xor, .int k n => some (.int k (bits .xor k (if k.signed then -1 else k.max) n))
  | _, _ => none

def tyInt (P : Program) (t : TypeId) : Option IntKind := match P.underlying t with
  | some (.int k) => some k
  | _ => none
def tyIface (P : Program) (t : TypeId) : Option Bool := (P.underlying t).map fun d => match d with | .interface _ => true | _ => false

def aconv (P : Program) (src dst : TypeId) (x : AV) : Option AV :=
  match x with
  | .int _ n => match tyInt P dst with
    | some k => if (P.underlying src).isSome = true then some (.int k (k.wrap n)) else none
    | none => none
  | .str s => if (P.underlying src).isSome = true ∧ tyStr P dst = true then some (.str s) else none
  | _ => none

/-- A bound of a slice expression. -/
def abound (x : Option AV) (d : Nat) : Option Nat :=
  match x with
  | none => some d
  | some (.int _ i) => if 0 ≤ i then some i.toNat else none
  | some _ => none

def aslice (P : Program) (t : TypeId) (x : AV) (lo hi mx : Option AV) : Option AV :=
  match x with
  | .str s => match abound lo 0, abound hi s.size with
    | some l, some h => if tyStr P t = true ∧ mx.isNone = true ∧ l ≤ h ∧ h ≤ s.size then some (.str (s.extract l h)) else none
    | _, _ => none
  | .sl sz es c => match abound lo 0, abound hi es.length, tyElem P t with
    | some l, some h, some e =>
      if (tySize P e = some sz ∨ es = []) ∧ (tySize P e).isSome = true ∧ l ≤ h ∧ h ≤ es.length then
        match mx with
        | none => some (.sl sz ((es.take h).drop l) (if h = es.length then (match c with | .tok n => if l < es.length then .tok n else .unk | c => c) else .unk))
        | some m => match abound (some m) 0 with
          | some m => if hi.isSome = true ∧ m = h then some (.sl sz ((es.take h).drop l) .exact) else none
          | none => none
      else none
    | _, _, _ => none
  | .slv n sz len => match abound lo 0, abound hi len, tyElem P t with
    | some l, some h, some e => if tySize P e = some sz ∧ mx.isNone = true ∧ l = 0 ∧ h ≤ len then some (.slv n sz h) else none
    | _, _, _ => none
  | _ => none

def abuild (P : Program) (t : TypeId) (parts : List (Nat × AV)) : Option AV :=
  match tyZero P t, tyPlaces P t with
  | some z, some pl => (afill (placeOf pl) z parts).map .agg
  | _, _ => none

def min4 (a b c d : Int) : Int := if d < (if c < (if b < a then b else a) then c else (if b < a then b else a)) then d else (if c < (if b < a then b else a) then c else (if b < a then b else a))
def max4 (a b c d : Int) : Int := if (if (if a < b then b else a) < c then c else (if a < b then b else a)) < d then d else (if (if a < b then b else a) < c then c else (if a < b then b else a))
def abuiltin (P : Program) (b : Builtin) (ts : Array TypeId) (xs : List AV) : Option AV :=
  match b, xs with
  | .len, [.str s] => if tyStr P (ts.getD 0 0) = true ∧ 0 < ts.size then some (.int .i64 s.size) else none
  | .len, [.sl _ es _] => if (tyElem P (ts.getD 0 0)).isSome = true ∧ 0 < ts.size then some (.int .i64 es.length) else none
  | .len, [.slv _ _ len] => if (tyElem P (ts.getD 0 0)).isSome = true ∧ 0 < ts.size then some (.int .i64 len) else none
  | .min, [.int k a, .int _ b] => some (.int k (if b < a then b else a))
  | .max, [.int k a, .int _ b] => some (.int k (if a < b then b else a))
  | .min, [.int k a, .int _ b, .int _ c] => some (.int k (if c < (if b < a then b else a) then c else (if b < a then b else a)))
  | .max, [.int k a, .int _ b, .int _ c] => some (.int k (if (if a < b then b else a) < c then c else (if a < b then b else a)))
  | .min, [.int k a, .int _ b, .int _ c, .int _ d] => some (.int k (min4 a b c d))
  | .max, [.int k a, .int _ b, .int _ c, .int _ d] => some (.int k (max4 a b c d))
  | _, _ => none

/-- The value of a quiet operation. -/
def aquiet (P : Program) (e : Operand → AV) (σ : Store) (op : Op) : Option AV :=
  match op with
  | .move x => some (e x)
  | .assign x => some (e x)
  | .pick c a b => match e c with
    | .bool t => some (if t then e a else e b)
    | _ => none
  | .load t a => aload P σ t (e a)
  | .fieldAddr s x f => afieldAddr P s (e x) f
  | .field s x f => afield P s (e x) f
  | .indexAddr t x i => aindexAddr P t (e x) (e i)
  | .index t x i => aindex P t (e x) (e i)
  | .build t parts => abuild P t (parts.toList.map fun p => (p.1, e p.2))
  | .makeFunc f first captured => some (.fn f (first.toList.map e) (captured.toList.map e))
  | .makeInterface t x => if tyIface P t = some false then some (.ifc t (e x)) else none
  | .extract t i => match e t with
    | .tup vs => vs[i]?
    | _ => none
  | .nilCheck x => match e x with
    | .ptr n i => some (.ptr n i)
    | .cptr cs => some (.cptr cs)
    | _ => none
  | .binOp op t x y _ => abin P op t x y (e x) (e y)
  | .unOp op _ x => aun op (e x)
  | .convert s d x => aconv P s d (e x)
  | .slice t x lo hi mx => aslice P t (e x) (lo.map e) (hi.map e) (mx.map e)
  | .call c => match c.callee with
    | .builtin b => abuiltin P b c.argTypes (c.args.toList.map e)
    | _ => none
  | _ => none

section
variable {P : Program} {ρ : Names} {M : Mem} {σ : Store} {w : World}

theorem tyInt_run {t : TypeId} {k : IntKind} (h : tyInt P t = some k) : P.underlying t = some (.int k) := by
  unfold tyInt at h; split at h
  · rename_i hd; injection h with h; subst h; exact hd
  · cases h

theorem aint_sound {op : BinOp} {t : TypeId} {k k' : IntKind} {a b : Int} {v : AV} (h : aint op k k' a b = some v) : ∃ y : Value, (binOp op t (.int k a) (.int k' b)).run P w = .ok y w ∧ VR ρ M v y := by
  cases op <;> simp only [aint] at h <;> split at h <;> first | (cases h; done) | skip
  all_goals (rename_i hc; injection h with h; subst h)
  all_goals first
    | (refine ⟨_, ?_, .int _ _⟩; simp only [binOp]; rw [shift_shl _ _ _ _ hc.1 hc.2]; rfl)
    | (refine ⟨_, ?_, .int _ _⟩; simp only [binOp]; rw [shift_shr _ _ _ _ hc.1 hc.2]; rfl)
    | (obtain ⟨rfl, hb⟩ := hc; refine ⟨_, ?_, .int _ _⟩; simp [binOp, Op.intDiv, hb]; done)
    | (subst hc; refine ⟨_, ?_, .int _ _⟩; simp [binOp, Op.intArith]; done)
    | (subst hc; refine ⟨_, ?_, .int _ _⟩; simp [binOp, intBits_and, intBits_or, intBits_xor, intBits_andNot]; done)
    | (subst hc; refine ⟨_, ?_, .bool _⟩; simp [binOp, Op.intCmp]; done)

theorem astr_sound {op : BinOp} {t : TypeId} {a b : ByteArray} {v : AV} (h : astr op a b = some v) : ∃ y : Value, (binOp op t (.string a) (.string b)).run P w = .ok y w ∧ VR ρ M v y := by
  have he : (a == b) = (a.toList == b.toList) := beq_toListBytes a b
  cases op <;> simp only [astr] at h <;> first | (cases h; done) | skip
  case add =>
    split at h
    · rename_i hc
      injection h with h; subst h
      have : ¬ ((a.size + b.size : Nat) : Int) > IntKind.i64.max := by rw [IntKind.max_i64]; omega
      exact ⟨.string (a ++ b), by simp only [binOp, Op.stringOp]; rw [if_neg this]; rfl, .str _⟩
    · cases h
  all_goals (injection h with h; subst h; refine ⟨_, ?_, .bool _⟩; simp [binOp, Op.stringOp, he])

theorem aguard_sound {op : BinOp} {t : TypeId} {xo yo : Operand} {x y : AV} {x' y' : Value} (hx : VR ρ M x x') (hy : VR ρ M y y') (h : aguard P t xo yo x y = true) :
    (eqGuard op t xo yo x' y').run P w = .ok () w := by
  unfold aguard at h
  split at h
  all_goals first
    | (cases h; done)
    | (cases hx; simp [eqGuard_at_bool, eqGuard_at_pointer, eqGuard_at_map, eqGuard_at_func, eqGuard_at_nilFunc, eqGuard_at_iface]; done)
    | skip
  · cases hx; cases hy; simp [eqGuard_nil_iface]
  · cases hx; cases hy
    cases xo <;> cases yo <;> simp [isConst] at h <;> simp [eqGuard_nil_constR, eqGuard_nil_constL]
  · cases hx; cases hy
    exact run_eqGuard_agg w _ _ _ _ _ _ (by simpa using h)

theorem abin_sound {op : BinOp} {t : TypeId} {xo yo : Operand} {x y v : AV} {x' y' : Value} (hx : VR ρ M x x') (hy : VR ρ M y y') (h : abin P op t xo yo x y = some v) :
    ∃ z : Value, (do eqGuard op t xo yo x' y'; binOp op t x' y' : Sem Value).run P w = .ok z w ∧ VR ρ M v z := by
  unfold abin at h
  split at h
  · cases hx; cases hy
    obtain ⟨z, hz, hv⟩ := aint_sound (P := P) (ρ := ρ) (M := M) (w := w) (t := t) h
    exact ⟨z, by simp [eqGuard_at_int, hz], hv⟩
  · cases hx; cases hy
    obtain ⟨z, hz, hv⟩ := astr_sound (P := P) (ρ := ρ) (M := M) (w := w) (t := t) h
    exact ⟨z, by simp [eqGuard_at_string, hz], hv⟩
  · rename_i sz es c sz' es'
    split at h
    · rename_i hte
      obtain ⟨e, hte⟩ := Option.isSome_iff_exists.1 hte
      have hu := tyElem_run hte
      have hy0 : y' = .slice none 0 0 := by
        cases hy with
        | slnil _ => rfl
        | slz _ h => rcases h with h | h <;> cases h
        | sl _ _ hcc _ _ _ => exact absurd rfl hcc.2
      subst hy0
      obtain ⟨a, n, m, hx', hb⟩ : ∃ a n m, x' = .slice a n m ∧ VR ρ M (slNil es c) (.bool a.isNone) := by
        cases hx with
        | slnil hcc =>
          refine ⟨none, 0, 0, rfl, ?_⟩
          rcases hcc with rfl | rfl | rfl
          · exact .anyb _
          · exact .anyb _
          · exact .bool _
        | slz a hcc =>
          refine ⟨some a, 0, 0, rfl, ?_⟩
          rcases hcc with rfl | rfl
          · exact .anyb _
          · exact .anyb _
        | sl q1 q2 hcc q4 q5 q6 =>
          refine ⟨_, _, _, rfl, ?_⟩
          cases c with
          | nil => exact absurd rfl hcc.2
          | tok n => exact .bool _
          | unk => simp only [slNil]; split
                   · exact .anyb _
                   · exact .bool _
          | exact => simp only [slNil]; split
                     · exact .anyb _
                     · exact .bool _
      subst hx'
      have hr := run_equal_slice_nil (P := P) w t e a n m hu
      split at h
      · injection h with h; subst h
        exact ⟨.bool a.isNone, by simp [eqGuard_at_slice, binOp, hr], hb⟩
      · injection h with h; subst h
        refine ⟨.bool (!a.isNone), by simp [eqGuard_at_slice, binOp, hr], ?_⟩
        revert hb; generalize a.isNone = bb; unfold slNil
        split
        · intro hb; cases hb; exact .bool _
        · intro hb; cases hb; exact .bool _
        · split
          · intro hb; exact .anyb _
          · intro hb; cases hb; exact .bool _
      · cases h
    · cases h
  · rename_i m sz len sz' es'
    split at h
    · rename_i hte
      obtain ⟨e, hte⟩ := Option.isSome_iff_exists.1 hte
      have hu := tyElem_run hte
      have hy0 : y' = .slice none 0 0 := by
        cases hy with
        | slnil _ => rfl
        | slz _ h => rcases h with h | h <;> cases h
        | sl _ _ hcc _ _ _ => exact absurd rfl hcc.2
      subst hy0
      cases hx with
      | slv hp hcc =>
        rename_i cap p
        have hr := run_equal_slice_nil (P := P) w t e (some ⟨p.b, p.o, none⟩) len cap hu
        split at h
        · injection h with h; subst h
          exact ⟨.bool false, by simp [eqGuard_at_slice, binOp, hr], .bool _⟩
        · injection h with h; subst h
          exact ⟨.bool true, by simp [eqGuard_at_slice, binOp, hr], .bool _⟩
        · cases h
    · cases h
  · split at h
    · rename_i hn1 hn2 hg
      have hgr := aguard_sound (w := w) (op := op) hx hy hg
      have key : ∀ r, aeq P 9 t x y = some r → (Op.equal t x' y').run P w = .ok r w := fun r hr => aeq_sound 9 10000 t x y r x' y' (by omega) hx hy hr
      split at h
      · cases hr : aeq P 9 t x y with
        | none => simp [hr] at h
        | some r =>
          simp [hr] at h; subst h
          refine ⟨.bool r, ?_, .bool r⟩
          have hb : binOp .eql t x' y' = (do pure (.bool (← Op.equal t x' y')) : Sem Value) := by
            unfold aguard at hg
            split at hg <;> first | (cases hg; done) | (cases hx <;> cases hy <;> simp [binOp]; done) | (cases hx; cases hy <;> simp [binOp]; done) | (cases hx; cases hy; simp [binOp])
          simp only [Sem.run_bind, hgr, Result.andThen_ok, hb, key r hr, Sem.run_pure]
      · cases hr : aeq P 9 t x y with
        | none => simp [hr] at h
        | some r =>
          simp [hr] at h; subst h
          refine ⟨.bool (!r), ?_, .bool _⟩
          have hb : binOp .neq t x' y' = (do pure (.bool (!(← Op.equal t x' y'))) : Sem Value) := by
            unfold aguard at hg
            split at hg <;> first | (cases hg; done) | (cases hx <;> cases hy <;> simp [binOp]; done) | (cases hx; cases hy <;> simp [binOp]; done) | (cases hx; cases hy; simp [binOp])
          simp only [Sem.run_bind, hgr, Result.andThen_ok, hb, key r hr, Sem.run_pure]
      · cases h
    · cases h

theorem aun_sound {op : UnOp} {x v : AV} {x' : Value} (hx : VR ρ M x x') (h : aun op x = some v) : ∃ z : Value, (Op.unary op x').run P w = .ok z w ∧ VR ρ M v z := by
  unfold aun at h
  split at h
  · injection h with h; subst h; cases hx
    refine ⟨_, ?_, .int _ _⟩; simp [unary_neg, Op.intArith]
  · injection h with h; subst h; cases hx
    refine ⟨_, ?_, .bool _⟩; simp [unary_not]
  · injection h with h; subst h; cases hx
    refine ⟨_, ?_, .int _ _⟩; simp [unary_xor, intBits_xor]
  · cases h

theorem aconv_sound {s d : TypeId} {x v : AV} {x' : Value} (hx : VR ρ M x x') (h : aconv P s d x = some v) : ∃ z : Value, (convert s d x').run P w = .ok z w ∧ VR ρ M v z := by
  unfold aconv at h
  split at h
  · rename_i k n
    split at h
    · rename_i k' hk
      split at h
      · rename_i hs
        injection h with h; subst h; cases hx
        obtain ⟨ds, hds⟩ := Option.isSome_iff_exists.1 hs
        refine ⟨_, ?_, .int _ _⟩; simp [convert, run_underlying hds, run_underlying (tyInt_run hk), Conv.intToInt]
      · cases h
    · cases h
  · rename_i s'
    split at h
    · rename_i hc
      injection h with h; subst h; cases hx
      obtain ⟨ds, hds⟩ := Option.isSome_iff_exists.1 hc.1
      exact ⟨.string s', by simp [convert, run_underlying hds, run_underlying (tyStr_run hc.2)], .str _⟩
    · cases h
  · cases h


theorem abound_sound {x : Option AV} {x' : Option Value} {d y n : Nat} {code : BoundsCode} (hx : x.isSome = x'.isSome) (hv : ∀ a b, x = some a → x' = some b → VR ρ M a b) (h : abound x d = some n) (hn : n ≤ y) :
    (x = none ∧ x' = none ∧ n = d) ∨ ∃ v, x' = some v ∧ (Instr.sliceBound v y code).run P w = .ok n w := by
  unfold abound at h
  split at h
  · injection h with h; subst h
    cases x' with
    | none => exact .inl ⟨rfl, rfl, rfl⟩
    | some _ => simp at hx
  · rename_i k i
    cases x' with
    | none => simp at hx
    | some v =>
      split at h
      · rename_i h0
        injection h with h; subst h
        have := hv _ _ rfl rfl
        cases this
        exact .inr ⟨_, rfl, run_sliceBound _ _ _ _ _ h0 (by omega)⟩
      · cases h
  · cases h

theorem aslice_sound {t : TypeId} {x v : AV} {x' : Value} {lo hi mx : Option AV} {lo' hi' mx' : Option Value} (hx : VR ρ M x x')
    (hl : lo.isSome = lo'.isSome ∧ ∀ a b, lo = some a → lo' = some b → VR ρ M a b) (hh : hi.isSome = hi'.isSome ∧ ∀ a b, hi = some a → hi' = some b → VR ρ M a b)
    (hm : mx.isSome = mx'.isSome ∧ ∀ a b, mx = some a → mx' = some b → VR ρ M a b) (h : aslice P t x lo hi mx = some v) :
    ∃ z : Value, (Instr.sliceAt t x' lo' hi' mx').run P w = .ok z w ∧ VR ρ M v z := by
  unfold aslice at h
  split at h
  · rename_i s
    split at h
    · rename_i l hn hlo hhi
      split at h
      · rename_i hc
        obtain ⟨hts, hmn, hle, hhs⟩ := hc
        injection h with h; subst h
        cases hx
        have hmx : mx' = none := by
          have := hm.1; cases mx' <;> simp_all
        refine ⟨.string (s.extract l hn), ?_, .str _⟩
        have e1 := abound_sound (P := P) (w := w) (code := .sliceAlen) (y := s.size) hh.1 hh.2 hhi hhs
        have e2 := abound_sound (P := P) (w := w) (code := .sliceB) (y := hn) hl.1 hl.2 hlo hle
        have hu := tyStr_run hts
        subst hmx
        rcases e1 with ⟨-, rfl, rfl⟩ | ⟨v1, rfl, r1⟩ <;> rcases e2 with ⟨-, rfl, rfl⟩ | ⟨v2, rfl, r2⟩ <;>
          simp [Instr.sliceAt, Instr.slice, run_underlying hu, Instr.sliceBounds, *]
      · cases h
    · cases h
  · rename_i sz es c
    split at h
    · rename_i l hn e hlo hhi hte
      split at h
      · rename_i hc
        obtain ⟨hsz, hsome, hle, hhe⟩ := hc
        obtain ⟨k, hk⟩ := Option.isSome_iff_exists.1 hsome
        have hu := tyElem_run hte
        -- the machine's side: what the bounds come to
        have e2 := abound_sound (P := P) (w := w) (code := if mx'.isSome then .slice3C else .sliceB) (y := hn) hl.1 hl.2 hlo hle
        have hnil : ∀ {k' : Nat}, ∀ e ∈ ((es.take hn).drop l), e ∈ es := fun {k'} e he => List.mem_of_mem_take (List.mem_of_mem_drop he)
        have hlen : ((es.take hn).drop l).length = hn - l := by simp; omega
        -- the new value, given the machine's numbers
        have val : ∀ (b o cap m : Nat) (c' : Cap), x' = .slice (some ⟨b, o, none⟩) es.length cap → hn ≤ m → m ≤ cap → (c' = .exact → m = hn) ∧ c' ≠ .nil →
            (∀ n, c' = .tok n → ρ n = some ⟨b, o + hn * sz, (m - hn) * sz⟩ ∧ l < m) →
            VR ρ M (.sl sz ((es.take hn).drop l) c') (.slice (some (if m = l then (⟨b, o, none⟩ : Addr) else (⟨b, o, none⟩ : Addr).add (l * k))) (hn - l) (m - l)) := by
          intro b o cap m c' hx' h1 h2 h3 h4
          subst hx'
          cases hx with
          | slz a hcc =>
            have h00 : hn = 0 := by simpa using hhe
            have hl0 : l = 0 := by omega
            subst h00; subst hl0
            have hm0 : m = 0 := by omega
            subst hm0
            have hnt : ∀ n, c' ≠ .tok n := fun n e => by have := (h4 n e).2; omega
            refine (show VR ρ M (.sl sz [] c') (.slice (some ⟨b, o, none⟩) 0 0) from .slz _ ?_) |> fun h => by simpa using h
            cases c' with
            | unk => exact .inl rfl
            | exact => exact .inr rfl
            | nil => exact absurd rfl h3.2
            | tok n => exact absurd rfl (hnt n)
          | sl hsz' hcap hcc ht q1 q2 =>
            by_cases hml : m = l
            · have h0 : hn = l := by omega
              have hem : ((es.take hn).drop l) = [] := List.eq_nil_of_length_eq_zero (by omega)
              rw [if_pos hml, hem, show hn - l = ([] : List (List AV)).length from by simp; omega]
              refine .sl (by simp) (by simp) ⟨fun _ => by simp; omega, h3.2⟩ (fun n hn' => ?_) (by simp) (by simp)
              have := (h4 n hn').2; omega
            · rw [if_neg hml, Addr.add_mid, ← hlen]
              have hkz : es = [] ∨ k = sz := by
                rcases hsz with h | h
                · rw [hk] at h; injection h with h; exact .inr h
                · exact .inl h
              rcases hkz with hes | hkz
              · have hl0 : l = 0 := by rw [hes] at hhe; simp at hhe; omega
                subst hl0
                have h0 : hn = 0 := by rw [hes] at hhe; simpa using hhe
                subst h0
                have hem : ((es.take 0).drop 0) = [] := by simp
                rw [hem, Nat.zero_mul, Nat.add_zero]
                refine .sl (by simp) (by simp) ⟨fun e => by have := h3.1 e; simp; omega, h3.2⟩ (fun n hn' => ?_) (by simp) (by simp)
                have := (h4 n hn').1
                simpa using this
              · subst hkz
                refine .sl (fun e he => hsz' e (hnil (k' := 0) e he)) (by rw [hlen]; omega) ⟨fun e => by have := h3.1 e; rw [hlen]; omega, h3.2⟩ (fun n hn' => ?_) (fun i j e v he hv => ?_) (fun i j e v y he hv hy => ?_)
                · have := (h4 n hn').1
                  rw [this, hlen]
                  congr 2
                  · rw [Nat.add_assoc, ← Nat.add_mul]; congr 2; omega
                  · congr 1; omega
                · rw [List.getElem?_drop, List.getElem?_take] at he
                  split at he
                  · have := q1 _ j e v he hv
                    rwa [show o + l * k + i * k + j = o + (l + i) * k + j by rw [Nat.add_mul]; omega]
                  · cases he
                · rw [List.getElem?_drop, List.getElem?_take] at he
                  split at he
                  · exact q2 _ j e v y he hv (by rwa [show o + (l + i) * k + j = o + l * k + i * k + j by rw [Nat.add_mul]; omega])
                  · cases he
        have valnil : x' = .slice none 0 0 → es = [] → l = 0 ∧ hn = 0 := fun _ he => by rw [he] at hhe; simp at hhe; omega
        split at h
        · injection h with h; subst h
          have hmx : mx' = none := by have := hm.1; cases mx' <;> simp_all
          subst hmx
          cases hx with
          | slnil hcc =>
            obtain ⟨h1, h2⟩ := valnil rfl rfl
            subst h1; subst h2
            refine ⟨.slice none 0 0, ?_, ?_⟩
            · have e1 := abound_sound (P := P) (w := w) (code := .sliceAcap) (y := 0) hh.1 hh.2 hhi (Nat.le_refl _)
              simp only [Option.isSome_none, Bool.false_eq_true, if_false] at e2
              rcases e1 with ⟨-, rfl, -⟩ | ⟨v1, rfl, r1⟩
              · rcases e2 with ⟨-, rfl, -⟩ | ⟨v2, rfl, r2⟩
                · simp [Instr.sliceAt, Instr.slice, run_underlying hu, Instr.sliceBounds, tySize_run hk]
                · simp [Instr.sliceAt, Instr.slice, run_underlying hu, Instr.sliceBounds, tySize_run hk, r2]
              · rcases e2 with ⟨-, rfl, -⟩ | ⟨v2, rfl, r2⟩
                · simp [Instr.sliceAt, Instr.slice, run_underlying hu, Instr.sliceBounds, tySize_run hk, r1]
                · simp [Instr.sliceAt, Instr.slice, run_underlying hu, Instr.sliceBounds, tySize_run hk, r1, r2]
            · simp only [List.take_nil, List.drop_nil]
              refine .slnil ?_
              rcases hcc with rfl | rfl | rfl <;> simp
          | slz a hcc =>
            have h00 : hn = 0 := by simpa using hhe
            have hl0 : l = 0 := by omega
            subst h00; subst hl0
            have e1 := abound_sound (P := P) (w := w) (code := .sliceAcap) (y := 0) hh.1 hh.2 hhi (Nat.le_refl _)
            refine ⟨.slice (some a) 0 0, ?_, ?_⟩
            · simp only [Option.isSome_none, Bool.false_eq_true, if_false] at e2
              rcases e1 with ⟨-, rfl, -⟩ | ⟨v1, rfl, r1⟩
              · rcases e2 with ⟨-, rfl, -⟩ | ⟨v2, rfl, r2⟩
                · simp [Instr.sliceAt, Instr.slice, run_underlying hu, Instr.sliceBounds, tySize_run hk]
                · simp [Instr.sliceAt, Instr.slice, run_underlying hu, Instr.sliceBounds, tySize_run hk, r2]
              · rcases e2 with ⟨-, rfl, -⟩ | ⟨v2, rfl, r2⟩
                · simp [Instr.sliceAt, Instr.slice, run_underlying hu, Instr.sliceBounds, tySize_run hk, r1]
                · simp [Instr.sliceAt, Instr.slice, run_underlying hu, Instr.sliceBounds, tySize_run hk, r1, r2]
            · simp only [List.take_nil, List.drop_nil]
              refine .slz a ?_
              rcases hcc with rfl | rfl <;> simp
          | sl hsz' hcap hcc ht q1 q2 =>
            rename_i b o cap
            have e1 := abound_sound (P := P) (w := w) (code := .sliceAcap) (y := cap) hh.1 hh.2 hhi (by omega)
            refine ⟨_, ?_, val b o cap cap _ rfl (by omega) (Nat.le_refl _) ⟨fun e => ?_, fun e => ?_⟩ (fun n e => ?_)⟩
            · simp only [Option.isSome_none, Bool.false_eq_true, if_false] at e2
              rcases e1 with ⟨-, rfl, q1⟩ | ⟨v1, rfl, r1⟩
              · rcases e2 with ⟨-, rfl, q2⟩ | ⟨v2, rfl, r2⟩
                · (simp [Instr.sliceAt, Instr.slice, run_underlying hu, Instr.sliceBounds, tySize_run hk, q1, q2]; split <;> rfl)
                · (simp [Instr.sliceAt, Instr.slice, run_underlying hu, Instr.sliceBounds, tySize_run hk, q1 ▸ r2, q1]; split <;> rfl)
              · rcases e2 with ⟨-, rfl, q2⟩ | ⟨v2, rfl, r2⟩
                · (simp [Instr.sliceAt, Instr.slice, run_underlying hu, Instr.sliceBounds, tySize_run hk, r1, q2]; split <;> rfl)
                · (simp [Instr.sliceAt, Instr.slice, run_underlying hu, Instr.sliceBounds, tySize_run hk, r1, r2]; split <;> rfl)
            · split at e
              · rename_i hne
                split at e
                · split at e <;> cases e
                · rw [hne]; exact hcc.1 e
              · cases e
            · split at e
              · split at e
                · split at e <;> cases e
                · exact hcc.2 e
              · cases e
            · split at e
              · rename_i hne
                split at e
                · rename_i n'
                  split at e
                  · rename_i hlt
                    injection e with e; subst e
                    exact ⟨by rw [ht n' rfl, hne], by omega⟩
                  · cases e
                · rename_i hno
                  exact absurd e (hno n)
              · cases e
        · rename_i m0
          split at h
          · rename_i m hmb
            split at h
            · rename_i hcond
              obtain ⟨his, rfl⟩ := hcond
              injection h with h; subst h
              have hmx : ∃ mv, mx' = some mv := by have := hm.1; cases mx' with | none => simp at this | some mv => exact ⟨mv, rfl⟩
              obtain ⟨mv, rfl⟩ := hmx
              obtain ⟨hv', rfl⟩ : ∃ hv', hi' = some hv' := by have := hh.1; rw [his] at this; cases hi' with | none => simp at this | some hv' => exact ⟨hv', rfl⟩
              cases hx with
              | slnil hcc =>
                obtain ⟨h1, h2⟩ := valnil rfl rfl
                subst h1; subst h2
                refine ⟨.slice none 0 0, ?_, ?_⟩
                · have e0 := abound_sound (P := P) (w := w) (code := .slice3Acap) (y := 0) hm.1 hm.2 hmb (Nat.le_refl _)
                  have e1 := abound_sound (P := P) (w := w) (code := .slice3B) (y := 0) hh.1 hh.2 hhi (Nat.le_refl _)
                  rcases e0 with ⟨-, h, -⟩ | ⟨v0, h0, r0⟩
                  · cases h
                  · injection h0 with h0; subst h0
                    rcases e1 with ⟨-, h, -⟩ | ⟨v1, h1, r1⟩
                    · cases h
                    · injection h1 with h1; subst h1
                      simp only [Option.isSome_some, if_true] at e2
                      rcases e2 with ⟨-, rfl, -⟩ | ⟨v2, rfl, r2⟩
                      · simp [Instr.sliceAt, Instr.slice, run_underlying hu, Instr.sliceBounds, tySize_run hk, r0, r1]
                      · simp [Instr.sliceAt, Instr.slice, run_underlying hu, Instr.sliceBounds, tySize_run hk, r0, r1, r2]
                · simp only [List.take_nil, List.drop_nil]; exact .slnil (.inr (.inl rfl))
              | slz a hcc =>
                have h00 : m = 0 := by simpa using hhe
                have hl0 : l = 0 := by omega
                subst h00; subst hl0
                refine ⟨.slice (some a) 0 0, ?_, ?_⟩
                · have e0 := abound_sound (P := P) (w := w) (code := .slice3Acap) (y := 0) hm.1 hm.2 hmb (Nat.le_refl _)
                  have e1 := abound_sound (P := P) (w := w) (code := .slice3B) (y := 0) hh.1 hh.2 hhi (Nat.le_refl _)
                  rcases e0 with ⟨-, h, -⟩ | ⟨v0, h0, r0⟩
                  · cases h
                  · injection h0 with h0; subst h0
                    rcases e1 with ⟨-, h, -⟩ | ⟨v1, h1, r1⟩
                    · cases h
                    · injection h1 with h1; subst h1
                      simp only [Option.isSome_some, if_true] at e2
                      rcases e2 with ⟨-, rfl, -⟩ | ⟨v2, rfl, r2⟩
                      · simp [Instr.sliceAt, Instr.slice, run_underlying hu, Instr.sliceBounds, tySize_run hk, r0, r1]
                      · simp [Instr.sliceAt, Instr.slice, run_underlying hu, Instr.sliceBounds, tySize_run hk, r0, r1, r2]
                · simp only [List.take_nil, List.drop_nil]; exact .slz a (.inr rfl)
              | sl hsz' hcap hcc ht q1 q2 =>
                rename_i b o cap
                have e0 := abound_sound (P := P) (w := w) (code := .slice3Acap) (y := cap) hm.1 hm.2 hmb (by omega)
                have e1 := abound_sound (P := P) (w := w) (code := .slice3B) (y := m) hh.1 hh.2 hhi (by omega)
                refine ⟨_, ?_, val b o cap m .exact rfl (Nat.le_refl _) (by omega) ⟨fun _ => rfl, by simp⟩ (fun n e => by cases e)⟩
                rcases e0 with ⟨-, h, -⟩ | ⟨v0, h0, r0⟩
                · cases h
                · injection h0 with h0; subst h0
                  rcases e1 with ⟨-, h, -⟩ | ⟨v1, h1, r1⟩
                  · cases h
                  · injection h1 with h1; subst h1
                    simp only [Option.isSome_some, if_true] at e2
                    rcases e2 with ⟨-, rfl, q2⟩ | ⟨v2, rfl, r2⟩
                    · (simp [Instr.sliceAt, Instr.slice, run_underlying hu, Instr.sliceBounds, tySize_run hk, r0, r1, q2]; split <;> rfl)
                    · (simp [Instr.sliceAt, Instr.slice, run_underlying hu, Instr.sliceBounds, tySize_run hk, r0, r1, r2]; split <;> rfl)
            · cases h
          · cases h
      · cases h
    · cases h
  · rename_i m sz len
    split at h
    · rename_i l hn e hlo hhi hte
      split at h
      · rename_i hc
        obtain ⟨hsz, hmn, hl0, hhe⟩ := hc
        injection h with h; subst h; subst hl0
        have hu := tyElem_run hte
        have hmx : mx' = none := by have := hm.1; cases mx' <;> simp_all
        subst hmx
        cases hx with
        | slv hp hcc =>
          rename_i cap p
          have e1 := abound_sound (P := P) (w := w) (code := .sliceAcap) (y := cap) hh.1 hh.2 hhi (by omega)
          have e2 := abound_sound (P := P) (w := w) (code := .sliceB) (y := hn) hl.1 hl.2 hlo (Nat.zero_le _)
          refine ⟨_, ?_, .slv (cap := cap) hp ⟨by omega, hcc.2⟩⟩
          rcases e1 with ⟨-, rfl, q1⟩ | ⟨v1, rfl, r1⟩
          · rcases e2 with ⟨-, rfl, q2⟩ | ⟨v2, rfl, r2⟩
            · (simp [Instr.sliceAt, Instr.slice, run_underlying hu, Instr.sliceBounds, tySize_run hsz, q1]; try (intro _; rw [Addr.add_mid]; rfl))
            · (simp [Instr.sliceAt, Instr.slice, run_underlying hu, Instr.sliceBounds, tySize_run hsz, q1 ▸ r2, q1]; try (intro _; rw [Addr.add_mid]; rfl))
          · rcases e2 with ⟨-, rfl, q2⟩ | ⟨v2, rfl, r2⟩
            · (simp [Instr.sliceAt, Instr.slice, run_underlying hu, Instr.sliceBounds, tySize_run hsz, r1]; try (intro _; rw [Addr.add_mid]; rfl))
            · (simp [Instr.sliceAt, Instr.slice, run_underlying hu, Instr.sliceBounds, tySize_run hsz, r1, r2]; try (intro _; rw [Addr.add_mid]; rfl))
      · cases h
    · cases h
  · cases h


theorem abuild_sound {t : TypeId} {v : AV} {parts : List (Nat × AV)} {parts' : Array (Nat × Value)} (hl : parts.length = parts'.size)
    (hp : ∀ (i : Nat) (p : Nat × AV) (q : Nat × Value), parts[i]? = some p → parts'[i]? = some q → p.1 = q.1 ∧ VR ρ M p.2 q.2) (h : abuild P t parts = some v) :
    ∃ z : Value, (Instr.build t parts').run P w = .ok z w ∧ VR ρ M v z := by
  unfold abuild at h
  split at h
  · rename_i z pl hz hpl
    cases hf : afill (placeOf pl) z parts with
    | none => simp [hf] at h
    | some out =>
      simp [hf] at h; subst h
      have hz' := hz
      unfold tyZero at hz
      cases hi : P.info? t with
      | none => simp [hi] at hz
      | some it =>
        cases hzz : it.zero with
        | none => simp [hi, hzz] at hz
        | some zv =>
          simp [hi, hzz] at hz
          subst hz
          obtain ⟨ys, hys, hvs⟩ := afill_sound (ρ := ρ) (M := M) parts parts'.toList _ out zv.cells.toList (by simpa using hl) (fun i p q h1 h2 => hp i p q h1 (by simpa using h2)) (by simpa using VRs.ofCells ρ M zv.cells.toList) hf
          refine ⟨.agg ys.toArray, run_build w t parts' ys.toArray ?_, VR.agg_iff.2 ⟨ys, rfl, hvs⟩⟩
          simp only [Array.toArray_toList] at hys
          unfold tyPlaces at hpl
          unfold Program.built
          split at hpl
          · rename_i fs hu
            cases hm : fs.toList.mapM (fun f => (P.info? f.type).map fun i => (f.offset, i.size)) with
            | none => simp [hm] at hpl
            | some pls =>
              simp only [hm, Option.map_some, Option.some.injEq] at hpl; subst hpl
              simp only [hi, hu, hzz, hm]
              simpa [placeOf] using hys
          · rename_i n e hu
            cases he : P.info? e with
            | none => simp [tySize, he] at hpl
            | some ie =>
              simp only [tySize, he, Option.map_some, Option.some.injEq] at hpl; subst hpl
              simp only [hi, hu, hzz, he]
              simpa [placeOf] using hys
          · cases hpl
  · cases h

theorem abuiltin_sound {b : Builtin} {ts : Array TypeId} {t : TypeId} {xs : List AV} {xs' : Array Value} {v : AV} (hx : VRs ρ M xs xs'.toList) (h : abuiltin P b ts xs = some v) :
    ∃ z : Value, (∀ cst, (builtin b ts t cst xs').run P w = .ok (.value z) w) ∧ VR ρ M v z := by
  have hlist : ∀ l : List Value, xs'.toList = l → xs' = l.toArray := fun l h => by rw [← h]
  unfold abuiltin at h
  split at h
  · rename_i s
    split at h
    · rename_i hc
      injection h with h; subst h
      obtain ⟨y, hl⟩ : ∃ y, xs'.toList = [y] := by have := hx.len; match xs'.toList, this with | [y], _ => exact ⟨y, rfl⟩
      rw [hl] at hx
      have := hx.head; cases this
      rw [hlist _ hl]
      obtain ⟨t0, h0, e0⟩ : ∃ t0, ts[0]? = some t0 ∧ ts.getD 0 0 = t0 := ⟨ts[0]'hc.2, Array.getElem?_eq_getElem hc.2, by simp [Array.getD, hc.2]⟩
      rw [e0] at hc
      exact ⟨.int .i64 s.size, fun cst => by simp [builtin, Builtin.len_, h0, run_underlying (tyStr_run hc.1), goInt], .int _ _⟩
    · cases h
  · rename_i sz es c
    split at h
    · rename_i hc
      injection h with h; subst h
      obtain ⟨y, hl⟩ : ∃ y, xs'.toList = [y] := by have := hx.len; match xs'.toList, this with | [y], _ => exact ⟨y, rfl⟩
      rw [hl] at hx
      have hv := hx.head
      rw [hlist _ hl]
      obtain ⟨t0, h0, e0⟩ : ∃ t0, ts[0]? = some t0 ∧ ts.getD 0 0 = t0 := ⟨ts[0]'hc.2, Array.getElem?_eq_getElem hc.2, by simp [Array.getD, hc.2]⟩
      rw [e0] at hc
      obtain ⟨e, he⟩ := Option.isSome_iff_exists.1 hc.1
      refine ⟨.int .i64 es.length, fun cst => ?_, .int _ _⟩
      cases hv with
      | slnil _ => simp [builtin, Builtin.len_, h0, run_underlying (tyElem_run he), goInt]
      | slz _ _ => simp [builtin, Builtin.len_, h0, run_underlying (tyElem_run he), goInt]
      | sl _ _ _ _ _ _ => simp [builtin, Builtin.len_, h0, run_underlying (tyElem_run he), goInt]
    · cases h
  · rename_i m sz len
    split at h
    · rename_i hc
      injection h with h; subst h
      obtain ⟨y, hl⟩ : ∃ y, xs'.toList = [y] := by have := hx.len; match xs'.toList, this with | [y], _ => exact ⟨y, rfl⟩
      rw [hl] at hx
      have hv := hx.head
      rw [hlist _ hl]
      obtain ⟨t0, h0, e0⟩ : ∃ t0, ts[0]? = some t0 ∧ ts.getD 0 0 = t0 := ⟨ts[0]'hc.2, Array.getElem?_eq_getElem hc.2, by simp [Array.getD, hc.2]⟩
      rw [e0] at hc
      obtain ⟨e, he⟩ := Option.isSome_iff_exists.1 hc.1
      refine ⟨.int .i64 len, fun cst => ?_, .int _ _⟩
      cases hv with
      | slv _ _ => simp [builtin, Builtin.len_, h0, run_underlying (tyElem_run he), goInt]
    · cases h
  · injection h with h; subst h
    obtain ⟨y1, y2, hl⟩ : ∃ y1 y2, xs'.toList = [y1, y2] := by have := hx.len; match xs'.toList, this with | [y1, y2], _ => exact ⟨y1, y2, rfl⟩
    rw [hl] at hx
    have h1 := hx.head; have h2 := hx.tail.head; cases h1; cases h2
    rw [hlist _ hl]
    refine ⟨_, fun cst => ?_, .int _ _⟩
    simp [builtin, Builtin.min_, Builtin.min2]
  · injection h with h; subst h
    obtain ⟨y1, y2, hl⟩ : ∃ y1 y2, xs'.toList = [y1, y2] := by have := hx.len; match xs'.toList, this with | [y1, y2], _ => exact ⟨y1, y2, rfl⟩
    rw [hl] at hx
    have h1 := hx.head; have h2 := hx.tail.head; cases h1; cases h2
    rw [hlist _ hl]
    refine ⟨_, fun cst => ?_, .int _ _⟩
    simp [builtin, Builtin.max_, Builtin.max2]
  · injection h with h; subst h
    obtain ⟨y1, y2, y3, hl⟩ : ∃ y1 y2 y3, xs'.toList = [y1, y2, y3] := by have := hx.len; match xs'.toList, this with | [y1, y2, y3], _ => exact ⟨y1, y2, y3, rfl⟩
    rw [hl] at hx
    have h1 := hx.head; have h2 := hx.tail.head; have h3 := hx.tail.tail.head; cases h1; cases h2; cases h3
    rw [hlist _ hl]
    refine ⟨_, fun cst => ?_, .int _ _⟩
    simp [builtin, Builtin.min_, Builtin.min2]
  · injection h with h; subst h
    obtain ⟨y1, y2, y3, hl⟩ : ∃ y1 y2 y3, xs'.toList = [y1, y2, y3] := by have := hx.len; match xs'.toList, this with | [y1, y2, y3], _ => exact ⟨y1, y2, y3, rfl⟩
    rw [hl] at hx
    have h1 := hx.head; have h2 := hx.tail.head; have h3 := hx.tail.tail.head; cases h1; cases h2; cases h3
    rw [hlist _ hl]
    refine ⟨_, fun cst => ?_, .int _ _⟩
    simp [builtin, Builtin.max_, Builtin.max2]
  · injection h with h; subst h
    obtain ⟨y1, y2, y3, y4, hl⟩ : ∃ y1 y2 y3 y4, xs'.toList = [y1, y2, y3, y4] := by have := hx.len; match xs'.toList, this with | [y1, y2, y3, y4], _ => exact ⟨y1, y2, y3, y4, rfl⟩
    rw [hl] at hx
    have h1 := hx.head; have h2 := hx.tail.head; have h3 := hx.tail.tail.head; have h4 := hx.tail.tail.tail.head; cases h1; cases h2; cases h3; cases h4
    rw [hlist _ hl]
    refine ⟨_, fun cst => ?_, .int _ _⟩
    simp [builtin, Builtin.min_, Builtin.min2, min4]
  · injection h with h; subst h
    obtain ⟨y1, y2, y3, y4, hl⟩ : ∃ y1 y2 y3 y4, xs'.toList = [y1, y2, y3, y4] := by have := hx.len; match xs'.toList, this with | [y1, y2, y3, y4], _ => exact ⟨y1, y2, y3, y4, rfl⟩
    rw [hl] at hx
    have h1 := hx.head; have h2 := hx.tail.head; have h3 := hx.tail.tail.head; have h4 := hx.tail.tail.tail.head; cases h1; cases h2; cases h3; cases h4
    rw [hlist _ hl]
    refine ⟨_, fun cst => ?_, .int _ _⟩
    simp [builtin, Builtin.max_, Builtin.max2, max4]
  · cases h

theorem VRs.map_ops {e : Operand → AV} {r : Operand → Value} (he : ∀ x, VR ρ M (e x) (r x)) (l : List Operand) : VRs ρ M (l.map e) (l.map r) :=
  ⟨by simp, fun i v x hv hx => by
    rw [List.getElem?_map] at hv hx
    cases hl : l[i]? with
    | none => simp [hl] at hv
    | some o => simp [hl] at hv hx; subst hv; subst hx; exact he o⟩

/-- The machine does the same. -/
theorem aquiet_sound {e : Operand → AV} {r : Operand → Value} {o : Oper} {v : AV} (hr : Rel ρ M σ w) (he : ∀ x, VR ρ M (e x) (r x)) (h : aquiet P e σ o.op = some v) :
    ∃ z : Value, (execOp r o).run P w = .ok (.value z) w ∧ VR ρ M v z := by
  have optH : ∀ x : Option Operand, (x.map e).isSome = (x.map r).isSome ∧ ∀ a b, x.map e = some a → x.map r = some b → VR ρ M a b := fun x => by
    cases x with
    | none => exact ⟨rfl, fun a b h => by simp at h⟩
    | some o => exact ⟨rfl, fun a b h1 h2 => by simp at h1 h2; subst h1; subst h2; exact he o⟩
  unfold aquiet at h
  unfold execOp
  split at h
  · injection h with h; subst h; rename_i x hx; exact ⟨r x, by simp [hx], he x⟩
  · injection h with h; subst h; rename_i x hx; exact ⟨r x, by simp [hx], he x⟩
  · rename_i c a b ho
    split at h
    · rename_i t ht
      injection h with h; subst h
      have hc := he c; rw [ht] at hc
      generalize hrc : r c = rc at hc
      cases hc
      refine ⟨if t then r a else r b, ?_, ?_⟩
      · simp [ho, hrc, asBool]
      · cases t <;> simp [he]
    · cases h
  · rename_i t a ho
    obtain ⟨z, hz, hv⟩ := aload_sound (P := P) hr (he a) h
    exact ⟨z, by simp [ho, hz], hv⟩
  · rename_i t a f ho
    obtain ⟨z, hz, hv⟩ := afieldAddr_sound (P := P) (w := w) (he a) h
    exact ⟨z, by simp [ho, hz], hv⟩
  · rename_i t a f ho
    obtain ⟨z, hz, hv⟩ := afield_sound (P := P) (w := w) (he a) h
    exact ⟨z, by simp [ho, hz], hv⟩
  · rename_i t a i ho
    obtain ⟨z, hz, hv⟩ := aindexAddr_sound (P := P) (w := w) (he a) (he i) h
    exact ⟨z, by simp [ho, hz], hv⟩
  · rename_i t a i ho
    obtain ⟨z, hz, hv⟩ := aindex_sound (P := P) (w := w) (he a) (he i) h
    exact ⟨z, by simp [ho, hz], hv⟩
  · rename_i t parts ho
    obtain ⟨z, hz, hv⟩ := abuild_sound (P := P) (w := w) (parts' := parts.map fun (i, x) => (i, r x)) (by simp) (fun i p q hp hq => by
      simp only [List.getElem?_map, Array.getElem?_map] at hp hq
      cases hl : parts.toList[i]? with
      | none => simp [hl] at hp
      | some y =>
        have hl' : parts[i]? = some y := by simpa using hl
        simp [hl] at hp; simp [hl'] at hq; subst hp; subst hq; exact ⟨rfl, he _⟩) h
    exact ⟨z, by simp [ho, hz], hv⟩
  · rename_i f first cap ho
    injection h with h; subst h
    refine ⟨.func f (first.map r) (cap.map r), by simp [ho, Instr.makeFunc], ?_⟩
    have h1 := VRs.map_ops he first.toList
    have h2 := VRs.map_ops he cap.toList
    exact .fn (by simp) (by simp) (fun i v x hv hx => h1.get i v x hv (by rw [List.getElem?_map]; simpa using hx)) (fun i v x hv hx => h2.get i v x hv (by rw [List.getElem?_map]; simpa using hx))
  · rename_i t x ho
    split at h
    · rename_i hi
      injection h with h; subst h
      unfold tyIface at hi
      cases hd : P.underlying t with
      | none => simp [hd] at hi
      | some d =>
        refine ⟨.iface t (r x), ?_, .ifc (he x)⟩
        cases d <;> simp_all [Instr.makeInterface, run_underlying hd]
    · cases h
  · rename_i t i ho
    split at h
    · rename_i vs hvs
      have hx := he t; rw [hvs] at hx
      obtain ⟨xs, hxs, hv⟩ := VR.tup_iff.1 hx
      obtain ⟨z, hz, hvz⟩ := hv.ex h
      exact ⟨z, by simp [ho, hxs, Instr.extract, hz], hvz⟩
    · cases h
  · rename_i x ho
    split at h
    · rename_i n i hx
      injection h with h; subst h
      have hv := he x; rw [hx] at hv
      generalize hrx : r x = rx at hv
      refine ⟨rx, ?_, hv⟩
      cases hv; simp [ho, hrx]
    · rename_i cs hx
      injection h with h; subst h
      have hv := he x; rw [hx] at hv
      generalize hrx : r x = rx at hv
      refine ⟨rx, ?_, hv⟩
      cases hv; simp [ho, hrx]
    · cases h
  · rename_i op t x y yt ho
    obtain ⟨z, hz, hv⟩ := abin_sound (P := P) (w := w) (he x) (he y) h
    exact ⟨z, by simp only [ho]; rw [Sem.run_bind, hz]; rfl, hv⟩
  · rename_i op t x ho
    obtain ⟨z, hz, hv⟩ := aun_sound (P := P) (w := w) (he x) h
    exact ⟨z, by simp [ho, hz], hv⟩
  · rename_i s d x ho
    obtain ⟨z, hz, hv⟩ := aconv_sound (P := P) (w := w) (he x) h
    exact ⟨z, by simp [ho, hz], hv⟩
  · rename_i t x lo hi mx ho
    obtain ⟨z, hz, hv⟩ := aslice_sound (P := P) (w := w) (he x) (optH lo) (optH hi) (optH mx) h
    exact ⟨z, by simp [ho, hz], hv⟩
  · rename_i c ho
    split at h
    · rename_i b hb
      obtain ⟨z, hz, hv⟩ := abuiltin_sound (P := P) (w := w) (t := o.type) (xs' := c.args.map r) (by simpa using VRs.map_ops he c.args.toList) h
      exact ⟨z, by simp [ho, resolve, hb, invoke, hz], hv⟩
    · cases h
  · cases h

end
end Go.Abs

/- Operations that make or turn memory. -/
set_option linter.unusedVariables false
set_option linter.unusedSimpArgs false
namespace Go.Abs

section
variable {P : Program} (w : World)
/-- append of a slice onto nil. -/
theorem run_append_nil' (t u ty e eu : TypeId) (i : TypeInfo) (z : Value) (ht : P.underlying t = some (.slice e)) (hu : P.underlying u = some (.slice eu)) (hi : P.info? e = some i) (hz : i.zero = some z)
    (x : Value) (n : Nat) (news : List Value) (hlen : (Builtin.lenOf x).run P w = .ok n w) (hf : (Builtin.firstCells i.size n x).run P w.drew = .ok news.toArray w.drew)
    (h0 : 0 < n) (h63 : (n : Int) ≤ 9223372036854775807) (h48 : n * i.bytes ≤ 281474976710656) :
    (Builtin.append_ #[t, u] ty #[.slice none 0 0, x]).run P w =
      .ok (.slice (some ⟨w.heap.size, 0, none⟩) n (grownCap w n 0 e)) (w.drew.alloc (.cells (news.toArray ++ Builtin.zeroCells z.cells (grownCap w n 0 e - n)) e)) := by
  have hn : n ≠ 0 := by omega
  have h63' : ¬ (9223372036854775807 < (n : Int)) := by omega
  have h48' : ¬ (281474976710656 < Builtin.nextslicecap n 0 * i.bytes) := by rw [nextslicecap_zero h0]; omega
  simp [Builtin.append_, run_underlying ht, run_underlying hu, sizeOf, typeInfo, zeroValue, hi, hz, hlen, hn, h63', h48', Question.forced, run_firstCells_none, hf, newRow, grownCap]
theorem run_append_grow' (t u ty e eu : TypeId) (i : TypeInfo) (z : Value) (ht : P.underlying t = some (.slice e)) (hu : P.underlying u = some (.slice eu)) (hi : P.info? e = some i) (hz : i.zero = some z)
    (b : Addr) (sLen sCap : Nat) (olds : List Value) (hlo : olds.length = sLen * i.size) (holds : ∀ j v, olds[j]? = some v → w.cell? (b.add j) = some v)
    (x : Value) (n : Nat) (news : List Value) (hlen : (Builtin.lenOf x).run P w = .ok n w) (hf : (Builtin.firstCells i.size n x).run P w.drew = .ok news.toArray w.drew)
    (hg : sCap < sLen + n) (h63 : ((sLen + n : Nat) : Int) ≤ 9223372036854775807) (hfit : Builtin.nextslicecap (sLen + n) sCap * i.bytes ≤ 281474976710656) :
    (Builtin.append_ #[t, u] ty #[.slice (some b) sLen sCap, x]).run P w =
      .ok (.slice (some ⟨w.heap.size, 0, none⟩) (sLen + n) (grownCap w (sLen + n) sCap e))
        (w.drew.alloc (.cells (olds.toArray ++ news.toArray ++ Builtin.zeroCells z.cells (grownCap w (sLen + n) sCap e - (sLen + n))) e)) := by
  have hn : ¬ (sLen + n ≤ sCap) := by omega
  have h63' : ¬ (9223372036854775807 < ((sLen : Int) + (n : Int))) := by omega
  have h48' : ¬ (281474976710656 < Builtin.nextslicecap (sLen + n) sCap * i.bytes) := by omega
  have hfo := run_firstCells_some (P := P) w.drew i.size sLen b sLen sCap olds hlo (by simpa using holds)
  simp [Builtin.append_, run_underlying ht, run_underlying hu, sizeOf, typeInfo, zeroValue, hi, hz, hlen, hn, h63', h48', Question.forced, hf, hfo, newRow, grownCap]
  congr 2
  apply Array.ext'
  simp [List.append_assoc]
theorem run_append_none' (t u ty e eu : TypeId) (i : TypeInfo) (ht : P.underlying t = some (.slice e)) (hu : P.underlying u = some (.slice eu)) (hi : P.info? e = some i)
    (base : Option Addr) (sLen sCap : Nat) (hle : sLen ≤ sCap) (x : Value) (hlen : (Builtin.lenOf x).run P w = .ok 0 w) (hf : (Builtin.firstCells i.size 0 x).run P w = .ok #[] w) :
    (Builtin.append_ #[t, u] ty #[.slice base sLen sCap, x]).run P w = .ok (.slice base sLen sCap) w := by
  cases base with
  | none => simp [Builtin.append_, run_underlying ht, run_underlying hu, sizeOf, typeInfo, hi, hlen, hle, hf]
  | some a => simp [Builtin.append_, run_underlying ht, run_underlying hu, sizeOf, typeInfo, hi, hlen, hle, hf, storeCells]
theorem run_append_room' (t u ty e eu T : TypeId) (i : TypeInfo) (ht : P.underlying t = some (.slice e)) (hu : P.underlying u = some (.slice eu)) (hi : P.info? e = some i)
    (g o sLen sCap : Nat) (cur : Array Value) (hg : w.heap[g]? = some (.cells cur T (0, 0)))
    (x : Value) (n : Nat) (news : List Value) (hlen : (Builtin.lenOf x).run P w = .ok n w) (hf : (Builtin.firstCells i.size n x).run P w = .ok news.toArray w) (h1 : ∀ u ∈ news, u.oneCell' = true)
    (hroom : sLen + n ≤ sCap) (hfit : o + sLen * i.size + news.length ≤ cur.size) :
    (Builtin.append_ #[t, u] ty #[.slice (some ⟨g, o, none⟩) sLen sCap, x]).run P w =
      .ok (.slice (some ⟨g, o, none⟩) (sLen + n) sCap) (w.setRow g (cur.toList.take (o + sLen * i.size) ++ news ++ cur.toList.drop (o + sLen * i.size + news.length)).toArray) := by
  have hst := run_storeCells_at P g (o + sLen * i.size) T news 0 cur w hg (by simpa using hfit) h1
  simp only [Nat.add_zero] at hst
  simp [Builtin.append_, run_underlying ht, run_underlying hu, sizeOf, typeInfo, hi, hlen, hroom, hf, Addr.add_mid, hst]
end

/-! ### Elements in memory -/
/-- The cells of elements, one behind the other. -/
theorem flatten_get {α : Type} : ∀ (es : List (List α)) (sz i j : Nat) (e : List α) (v : α), (∀ e, e ∈ es → e.length = sz) → es[i]? = some e → e[j]? = some v → es.flatten[i * sz + j]? = some v
  | [], _, _, _, _, _, _, h, _ => by simp at h
  | x :: es, sz, 0, j, e, v, hs, h, hv => by
    simp at h; subst h
    have : j < x.length := (List.getElem?_eq_some_iff.1 hv).1
    simp [List.getElem?_append_left this, hv]
  | x :: es, sz, i + 1, j, e, v, hs, h, hv => by
    have hx : x.length = sz := hs x (by simp)
    simp at h
    have := flatten_get es sz i j e v (fun e he => hs e (by simp [he])) h hv
    simp only [List.flatten_cons]
    rw [List.getElem?_append_right (by rw [hx, Nat.add_mul]; omega), ← this]
    congr 1
    rw [hx, Nat.add_mul]; omega
theorem flatten_len {α : Type} : ∀ (es : List (List α)) (sz : Nat), (∀ e, e ∈ es → e.length = sz) → es.flatten.length = es.length * sz
  | [], sz, _ => by simp
  | x :: es, sz, hs => by
    simp only [List.flatten_cons, List.length_append, hs x (by simp), flatten_len es sz (fun e he => hs e (by simp [he])), List.length_cons, Nat.add_mul]
    omega
/-- A slice by value is readable: the cells that it has. -/
theorem VR.sl_cells {ρ : Names} {M : Mem} {σ : Store} {w : World} {sz : Nat} {es : List (List AV)} {c : Cap} {x : Value} (hr : Rel ρ M σ w) (h : VR ρ M (.sl sz es c) x) :
    ∃ (base : Option Addr) (cap : Nat) (xs : List Value), x = .slice base es.length cap ∧ es.length ≤ cap ∧ (∀ e, e ∈ es → e.length = sz) ∧ VRs ρ M es.flatten xs ∧ (base = none → es = [] ∧ cap = 0) ∧
      (∀ a, base = some a → (xs = [] ∨ a.spot = none) ∧ ∀ j v, xs[j]? = some v → M ⟨a.block, a.off + j, none⟩ = some v) := by
  cases h with
  | slnil hc => exact ⟨none, 0, [], rfl, Nat.le_refl _, by simp, by simpa using VRs.nil, fun _ => ⟨rfl, rfl⟩, fun a h => by simp at h⟩
  | slz a hc => exact ⟨some a, 0, [], rfl, Nat.le_refl _, by simp, by simpa using VRs.nil, fun h => (by cases h), fun a' _ => ⟨.inl rfl, by simp⟩⟩
  | sl hsz hcap hcc ht h1 h2 =>
    rename_i b o cap
    have hall : ∀ n, n < es.flatten.length → ∃ i j e v, es[i]? = some e ∧ e[j]? = some v ∧ n = i * sz + j := by
      intro n hn
      rw [flatten_len es sz hsz] at hn
      have hsz0 : 0 < sz := by
        rcases Nat.eq_zero_or_pos sz with h | h
        · subst h; simp at hn
        · exact h
      have hi : n / sz < es.length := (Nat.div_lt_iff_lt_mul hsz0).2 hn
      have hj : n % sz < (es[n / sz]).length := by rw [hsz _ (List.getElem_mem hi)]; exact Nat.mod_lt _ hsz0
      exact ⟨n / sz, n % sz, _, _, List.getElem?_eq_getElem hi, List.getElem?_eq_getElem hj, by rw [Nat.mul_comm, Nat.div_add_mod]⟩
    have hget : ∀ n, n < es.flatten.length → ∃ y, M ⟨b, o + n, none⟩ = some y := by
      intro n hn
      obtain ⟨i, j, e, v, he, hv, rfl⟩ := hall n hn
      have := h1 i j e v he hv
      rw [← Nat.add_assoc]
      exact Option.isSome_iff_exists.1 this
    refine ⟨some ⟨b, o, none⟩, cap, (List.range es.flatten.length).map fun n => (M ⟨b, o + n, none⟩).getD undef, rfl, hcap, hsz, ⟨by simp, fun n v x hv hx => ?_⟩, (fun h => by simp at h), (fun a ha => ?_)⟩
    · have hn : n < es.flatten.length := (List.getElem?_eq_some_iff.1 hv).1
      obtain ⟨y, hy⟩ := hget n hn
      simp only [List.getElem?_map, List.getElem?_range hn, Option.map_some, hy, Option.getD_some, Option.some.injEq] at hx
      subst hx
      obtain ⟨i, j, e, u, he, hu, rfl⟩ := hall n hn
      have := flatten_get es sz i j e u hsz he hu
      rw [hv] at this; injection this with this; subst this
      exact h2 i j e v y he hu (by rwa [Nat.add_assoc])
    · injection ha with ha; subst ha
      refine ⟨.inr rfl, fun j v hv => ?_⟩
      simp only [List.getElem?_map] at hv
      by_cases hn : j < es.flatten.length
      · obtain ⟨y, hy⟩ := hget j hn
        simp only [List.getElem?_range hn, Option.map_some, hy, Option.getD_some, Option.some.injEq] at hv
        subst hv; exact hy
      · rw [List.getElem?_eq_none (by rw [List.length_range]; omega)] at hv; cases hv

theorem Rel.firstCells {ρ : Names} {M : Mem} {σ : Store} {w : World} {P : Program} {k : Nat} {es : List (List AV)} {base : Option Addr} {cap : Nat} {xs : List Value} (hr : Rel ρ M σ w)
    (hlen : xs.length = es.length * k) (hnone : base = none → es = [] ∧ cap = 0) (hb : ∀ a, base = some a → (xs = [] ∨ a.spot = none) ∧ ∀ j v, xs[j]? = some v → M ⟨a.block, a.off + j, none⟩ = some v) (d : Nat) :
    (Builtin.firstCells k es.length (.slice base es.length cap)).run P { w with drawn := d } = .ok xs.toArray { w with drawn := d } := by
  cases base with
  | none =>
    obtain ⟨rfl, rfl⟩ := hnone rfl
    have : xs = [] := List.eq_nil_of_length_eq_zero (by simpa using hlen)
    subst this
    exact run_firstCells_none _ _ _ _ _
  | some a =>
    refine run_firstCells_some _ k es.length a es.length cap xs hlen (fun j v hv => ?_)
    obtain ⟨hsp, hg⟩ := hb a rfl
    rcases hsp with hsp | hsp
    · subst hsp; simp at hv
    have := hr.mem _ _ (hg j v hv)
    have ha : a = ⟨a.block, a.off, none⟩ := by cases a; simp_all
    rw [ha, Addr.add_mid]
    exact this

/-- New stable elements, told as a slice by value. -/
theorem VR.sl_new {ρ : Names} {M : Mem} {b o sz cap : Nat} {es : List (List AV)} {xs : List Value} {c : Cap} (hsz : ∀ e, e ∈ es → e.length = sz) (hv : VRs ρ M es.flatten (xs.take (es.length * sz)))
    (hm : ∀ i, i < es.length * sz → M ⟨b, o + i, none⟩ = xs[i]?) (hcap : es.length ≤ cap) (hc : (c = .exact → cap = es.length) ∧ c ≠ .nil)
    (ht : ∀ n, c = .tok n → ρ n = some ⟨b, o + es.length * sz, (cap - es.length) * sz⟩) : VR ρ M (.sl sz es c) (.slice (some ⟨b, o, none⟩) es.length cap) := by
  have hidx : ∀ (i j : Nat) (e : List AV) (v : AV), es[i]? = some e → e[j]? = some v → i * sz + j < es.length * sz := fun i j e v he hj => by
    have h1 : i < es.length := (List.getElem?_eq_some_iff.1 he).1
    have h2 : j < e.length := (List.getElem?_eq_some_iff.1 hj).1
    rw [hsz e (List.mem_of_getElem? he)] at h2
    calc i * sz + j < i * sz + sz := by omega
      _ = (i + 1) * sz := by rw [Nat.add_mul]; omega
      _ ≤ es.length * sz := Nat.mul_le_mul_right _ h1
  have hx : ∀ (i j : Nat) (e : List AV) (v : AV), es[i]? = some e → e[j]? = some v → ∃ x, xs[i * sz + j]? = some x ∧ VR ρ M v x := fun i j e v he hj => by
    obtain ⟨x, hx, hvx⟩ := hv.ex (flatten_get es sz i j e v hsz he hj)
    rw [List.getElem?_take] at hx
    split at hx
    · exact ⟨x, hx, hvx⟩
    · cases hx
  refine .sl hsz hcap hc ht (fun i j e v he hj => ?_) (fun i j e v x he hj hxm => ?_)
  · obtain ⟨x, hx, _⟩ := hx i j e v he hj
    rw [Nat.add_assoc, hm _ (hidx i j e v he hj), hx]; rfl
  · obtain ⟨y, hy, hvy⟩ := hx i j e v he hj
    rw [Nat.add_assoc, hm _ (hidx i j e v he hj), hy] at hxm
    injection hxm with hxm; subst hxm; exact hvy

/-! ### Literals of slices -/
def abuildSlice (P : Program) (t : TypeId) (len : Nat) (parts : List (Nat × AV)) : Option AV :=
  match tyElem P t with
  | some e => match tySize P e, tyZero P e, parts.mapM (fun p => p.2.cells?) with
    | some k, some z, some es => if parts.map (·.1) = List.range len ∧ es.all (fun e => e.length == k) = true ∧ len * k ≤ 2 ^ 24 ∧ z.length = k then some (.sl k es .exact) else none
    | _, _, _ => none
  | none => none

theorem fill_all {k : Nat} : ∀ (ys : List Value) (j : Nat) (pre suf : List Value), pre.length = j * k → suf.length = ys.length * k → (∀ y ∈ ys, y.cells.size = k) →
    Instr.fill (fun i => some (i * k, k)) (pre ++ suf).toArray ((ys.zipIdx j).map fun p => (p.2, p.1)) = some (pre ++ (ys.map fun y => y.cells.toList).flatten).toArray
  | [], j, pre, suf, h1, h2, _ => by
    have : suf = [] := List.eq_nil_of_length_eq_zero (by simpa using h2)
    subst this; simp [Instr.fill]
  | y :: ys, j, pre, suf, h1, h2, hk => by
    have hy : y.cells.size = k := hk y (by simp)
    have hle : k ≤ suf.length := by rw [h2]; simp [Nat.add_mul]
    have hg : ¬ (j * k + k > (pre ++ suf).length) := by simp [h1]; omega
    simp only [List.zipIdx_cons, List.map_cons, Instr.fill, hy, List.size_toArray, ne_eq, not_true_eq_false, hg, or_self, if_false, decide_false, Bool.or_self, Bool.false_eq_true]
    have hfold := setIfInBounds_foldl y.cells.toList (j * k) 0 (pre ++ suf).toArray (by simp [h1, hy]; omega)
    simp only [Nat.add_zero, List.toList_toArray, Array.length_toList, hy] at hfold
    have hcells : y.cells.zipIdx.foldl (fun cs (c, i) => cs.setIfInBounds (j * k + i) c) (pre ++ suf).toArray = ((pre ++ y.cells.toList) ++ suf.drop k).toArray := by
      apply Array.ext'
      rw [← Array.foldl_toList, Array.toList_zipIdx]
      refine hfold.trans ?_
      rw [← h1]
      simp [List.take_append, List.drop_append]
    rw [hcells, fill_all ys (j + 1) (pre ++ y.cells.toList) (suf.drop k) (by simp [h1, hy, Nat.add_mul]) (by simp [h2, Nat.add_mul]) (fun y hy => hk y (by simp [hy]))]
    simp

theorem mapM_some {α β : Type} {f : α → Option β} : ∀ {l : List α} {r : List β}, l.mapM f = some r → r.length = l.length ∧ ∀ (i : Nat) (a : α), l[i]? = some a → ∃ b, f a = some b ∧ r[i]? = some b
  | [], r, h => by simp at h; subst h; simp
  | x :: l, r, h => by
    simp only [List.mapM_cons, Option.bind_eq_bind, Option.pure_def] at h
    cases hx : f x with
    | none => simp [hx] at h
    | some b =>
      cases hl : l.mapM f with
      | none => simp [hx, hl] at h
      | some r' =>
        simp [hx, hl] at h; subst h
        obtain ⟨h1, h2⟩ := mapM_some hl
        refine ⟨by simp [h1], fun i a ha => ?_⟩
        cases i with
        | zero => simp at ha; subst ha; exact ⟨b, hx, rfl⟩
        | succ i => simp at ha; obtain ⟨c, hc, hr⟩ := h2 i a ha; exact ⟨c, hc, by simpa using hr⟩

theorem abuildSlice_sound {P : Program} {ρ : Names} {M : Mem} {σ : Store} {w : World} {NS : Nm → Prop} {t : TypeId} {len : Nat} {parts : List (Nat × AV)} {parts' : Array (Nat × Value)} {v : AV} (hr : Rel ρ M σ w)
    (hl : parts.length = parts'.size) (hp : ∀ (i : Nat) (p : Nat × AV) (q : Nat × Value), parts[i]? = some p → parts'[i]? = some q → p.1 = q.1 ∧ VR ρ M p.2 q.2) (h : abuildSlice P t len parts = some v) :
    ∃ (x : Value) (w' : World) (M' : Mem), (Instr.buildSlice t len parts').run P w = .ok x w' ∧ VR ρ M' v x ∧ Rel ρ M' σ w' ∧ Evo NS ρ M σ w ρ M' σ w' := by
  unfold abuildSlice at h
  split at h
  · rename_i e he
    split at h
    · rename_i k z es hk hz hes
      split at h
      · rename_i hc
        obtain ⟨hidx, hall, hle, hzl⟩ := hc
        injection h with h; subst h
        obtain ⟨hesl, hesg⟩ := mapM_some hes
        have hlen : parts.length = len := by have := congrArg List.length hidx; simpa using this
        have hsz : ∀ e, e ∈ es → e.length = k := fun e he => by simpa using List.all_eq_true.1 hall e he
        -- the machine's parts
        obtain ⟨ys, hys⟩ : ∃ ys : List Value, ys = parts'.toList.map (·.2) := ⟨_, rfl⟩
        have hysl : ys.length = len := by rw [hys]; simp; omega
        have hq : parts'.toList = (ys.zipIdx).map fun p => (p.2, p.1) := by
          apply List.ext_getElem?
          intro i
          by_cases hi : i < len
          · have hi' : i < parts.length := by omega
            have hi'' : i < parts'.toList.length := by simp; omega
            have h1 := hp i parts[i] parts'.toList[i] (List.getElem?_eq_getElem hi') (by simp)
            have h2 : parts[i].1 = i := by
              have := congrArg (fun l => l[i]?) hidx
              simp [List.getElem?_eq_getElem hi', List.getElem?_range hi] at this
              exact this
            rw [List.getElem?_eq_getElem hi'']
            simp only [List.getElem?_map, List.getElem?_zipIdx, hys, Nat.zero_add]
            rw [List.getElem?_eq_getElem hi'']
            simp only [Option.map_some, Option.some.injEq]
            ext
            · show parts'.toList[i].1 = i
              rw [← h1.1, h2]
            · rfl
          · rw [List.getElem?_eq_none (by simp; omega), List.getElem?_eq_none (by simp; omega)]
        have hvr : ∀ (i : Nat) (e : List AV) (y : Value), es[i]? = some e → ys[i]? = some y → VRs ρ M e y.cells.toList := fun i e y hei hyi => by
          have hi : i < parts.length := by rw [← hesl]; exact (List.getElem?_eq_some_iff.1 hei).1
          have hi'' : i < parts'.toList.length := by simp; omega
          obtain ⟨c, hc, hrc⟩ := hesg i parts[i] (List.getElem?_eq_getElem hi)
          rw [hei] at hrc; injection hrc with hrc; subst hrc
          have h1 := hp i parts[i] parts'.toList[i] (List.getElem?_eq_getElem hi) (by simp)
          rw [hys, List.getElem?_map, List.getElem?_eq_getElem hi''] at hyi
          simp at hyi
          have := h1.2.cells hc
          rw [← hyi]; simpa using this
        have hyk : ∀ y ∈ ys, y.cells.size = k := fun y hy => by
          obtain ⟨i, hi, rfl⟩ := List.getElem_of_mem hy
          have hie : i < es.length := by omega
          have := (hvr i es[i] ys[i] (List.getElem?_eq_getElem hie) (List.getElem?_eq_getElem hi)).len
          rw [hsz _ (List.getElem_mem hie)] at this
          simpa using this.symm
        obtain ⟨zv, hzv, hzc⟩ := tyZero_run hz w
        have hzs : zv.cells.size = k := by have := congrArg List.length hzc; simp at this; omega
        -- the flattened cells
        have hflat : VRs ρ M es.flatten (ys.map fun y => y.cells.toList).flatten := by
          have aux : ∀ (es : List (List AV)) (ys : List Value), es.length = ys.length → (∀ (i : Nat) (e : List AV) (y : Value), es[i]? = some e → ys[i]? = some y → VRs ρ M e y.cells.toList) → VRs ρ M es.flatten (ys.map fun y => y.cells.toList).flatten := by
            intro es
            induction es with
            | nil => intro ys hl _; have : ys = [] := List.eq_nil_of_length_eq_zero (by simpa using hl.symm); subst this; simpa using VRs.nil
            | cons e es ih =>
              intro ys hl hg
              match ys, hl with
              | y :: ys, hl =>
                simp only [List.flatten_cons, List.map_cons]
                exact (hg 0 e y rfl rfl).append (ih ys (by simpa using hl) (fun i e y h1 h2 => hg (i + 1) e y (by simpa using h1) (by simpa using h2)))
          exact aux es ys (by omega) hvr
        obtain ⟨fl, hfl⟩ : ∃ fl : List Value, fl = (ys.map fun y => y.cells.toList).flatten := ⟨_, rfl⟩
        rw [← hfl] at hflat
        have hfll : fl.length = len * k := by rw [← hflat.len, flatten_len es k hsz]; congr 1; omega
        obtain ⟨h1, h2⟩ := hr.alloc_stable (NS := NS) fl e fl.length
        refine ⟨.slice (some ⟨w.heap.size, 0, none⟩) es.length es.length, w.alloc (.cells fl.toArray e), M.with w.heap.size fl fl.length, ?_, ?_, h1, h2⟩
        · have hfill : Instr.fill (fun i => some (i * k, k)) ((Array.range (len * k)).map (zv.cells[· % zv.cells.size]!)) parts'.toList = some fl.toArray := by
            have := fill_all (k := k) ys 0 [] ((List.range (len * k)).map (zv.cells[· % zv.cells.size]!)) (by simp) (by simp [hysl]) hyk
            rw [← hq] at this
            simp only [List.nil_append] at this
            rw [hfl, ← this]
            congr 1
            apply Array.ext'
            simp
          have hcap : ¬ (len * k > 2 ^ 24) := by omega
          have hz0 : len * k = 0 → (Array.range (len * k)).map (zv.cells[· % zv.cells.size]!) = (Array.range (len * k)).map ((#[] : Array Value)[· % (#[] : Array Value).size]!) := fun h => by rw [h]; simp
          simp only [Instr.buildSlice, Sem.run_bind, run_underlying (tyElem_run he), Result.andThen_ok, tySize_run hk, Sem.run_ite, hcap, if_false]
          by_cases h0 : len * k = 0
          · simp only [h0, if_true, Sem.run_pure, Result.andThen_ok]
            rw [hz0 h0] at hfill
            have hf0 : ∀ f : Nat → Value, Array.map f (Array.range 0) = #[] := fun f => by apply Array.ext'; simp
            simp only [h0, hf0] at hfill
            simp [hf0, hfill, newRow, hesl, hlen]
          · simp only [h0, if_false, Sem.run_bind, hzv, Result.andThen_ok, Sem.run_pure]
            simp [hfill, newRow, hesl, hlen]
        · have hg := h2.grows
          refine VR.sl_new (xs := fl) hsz ?_ (fun i hi => ?_) (Nat.le_refl _) ⟨fun _ => rfl, by simp⟩ (fun n h => by cases h)
          · rw [List.take_of_length_le (by rw [hfll]; rw [hesl, hlen]; exact Nat.le_refl _)]
            exact hflat.mono hg
          · rw [Nat.zero_add]
            exact Mem.with_get (by rw [hfll]; rw [hesl, hlen] at hi; exact hi)
      · cases h
    · cases h
  · cases h

end Go.Abs

/- append. -/
set_option linter.unusedVariables false
set_option linter.unusedSimpArgs false
namespace Go.Abs

def aappend (P : Program) (n : Nm) (σ : Store) (ts : Array TypeId) (s x : AV) : Option (AV × Store) :=
  match s, x with
  | .sl sz es c, .sl sz' es' _ => match tyElem P (ts.getD 0 0), tyElem P (ts.getD 1 0) with
    | some e, some _ => match tySize P e, tyBytes P e, tyZero P e with
      | some k, some b, some z =>
        if ts.size = 2 ∧ 0 < k ∧ 0 < b ∧ z.length = k ∧ (es.isEmpty = true ∨ sz = k) ∧ (es'.isEmpty = true ∨ sz' = k) ∧ (es.length + es'.length) * b ≤ 140737488355328 then
          if es'.isEmpty = true then some (.sl sz es c, σ) else
          match c with
          | .exact => some (.sl k (es ++ es') (.tok n), σ.up n .tok)
          | .nil => some (.sl k (es ++ es') (.tok n), σ.up n .tok)
          | .tok m => match σ m with
            | some .tok => if sz = k ∧ es'.all (fun e => e.all AV.one) = true then some (.sl k (es ++ es') (.tok n), (σ.del m).up n .tok) else none
            | _ => none
          | .unk => none
        else none
      | _, _, _ => none
    | _, _ => none
  | _, _ => none

theorem Store.del_le (σ : Store) (m : Nm) : (σ.del m).le σ := fun n o h => by
  unfold Store.del at h; split at h
  · cases h
  · exact h
theorem VRs.len_flatten {ρ : Names} {M : Mem} {es : List (List AV)} {xs : List Value} {k : Nat} (h : VRs ρ M es.flatten xs) (hs : ∀ e, e ∈ es → e.length = k) : xs.length = es.length * k := by
  rw [← h.len, flatten_len es k hs]

theorem aappend_sound {P : Program} {ρ : Names} {M : Mem} {σ σ' : Store} {w : World} {n : Nm} {NS : Nm → Prop} {ts : Array TypeId} {t : TypeId} {s x v : AV} {s' x' : Value} (hr : Rel ρ M σ w) (hn : ρ n = none) (hN : NS n)
    (hs : VR ρ M s s') (hx : VR ρ M x x') (h : aappend P n σ ts s x = some (v, σ')) :
    ∃ (y : Value) (w' : World) (ρ' : Names) (M' : Mem), (Builtin.append_ ts t #[s', x']).run P w = .ok y w' ∧ VR ρ' M' v y ∧ Rel ρ' M' σ' w' ∧ Evo NS ρ M σ w ρ' M' σ' w' := by
  unfold aappend at h
  split at h
  · rename_i sz es c sz' es' c'
    split at h
    · rename_i e eu he heu
      split at h
      · rename_i k b z hk hb hz
        split at h
        · rename_i hc
          obtain ⟨hts, hk0, hb0, hzl, hsz, hsz', hbound⟩ := hc
          obtain ⟨t1, t2, rfl⟩ : ∃ t1 t2, ts = #[t1, t2] := by
            match ts, hts with
            | ⟨[a, b]⟩, _ => exact ⟨a, b, rfl⟩
          have hu1 : P.underlying t1 = some (.slice e) := tyElem_run he
          have hu2 : P.underlying t2 = some (.slice eu) := tyElem_run heu
          obtain ⟨i, hi, hik, hib, zv, hzv, hzc⟩ : ∃ i, P.info? e = some i ∧ i.size = k ∧ i.bytes = b ∧ ∃ zv, i.zero = some zv ∧ zv.cells.toList.map ofCell = z := by
            cases hi : P.info? e with
            | none => simp [tySize, hi] at hk
            | some i =>
              cases hzz : i.zero with
              | none => simp [tyZero, hi, hzz] at hz
              | some zv => exact ⟨i, rfl, by simpa [tySize, hi] using hk, by simpa [tyBytes, hi] using hb, zv, hzz, by simpa [tyZero, hi, hzz] using hz⟩
          have hzs : zv.cells.size = k := by have := congrArg List.length hzc; simp at this; omega
          -- both slices, as memory has them
          obtain ⟨base, cap, xs, rfl, hcap, hese, hvs, hnone, hbase⟩ := VR.sl_cells hr hs
          obtain ⟨base', cap', ys, rfl, hcap', hese', hvs', hnone', hbase'⟩ := VR.sl_cells hr hx
          have hesk : ∀ e, e ∈ es → e.length = k := fun e he => by
            rcases hsz with h | h
            · have : es = [] := by simpa using h
              subst this; simp at he
            · rw [← h]; exact hese e he
          have hesk' : ∀ e, e ∈ es' → e.length = k := fun e he => by
            rcases hsz' with h | h
            · have : es' = [] := by simpa using h
              subst this; simp at he
            · rw [← h]; exact hese' e he
          have hxl : xs.length = es.length * k := hvs.len_flatten hesk
          have hyl : ys.length = es'.length * k := hvs'.len_flatten hesk'
          have hneed : es.length + es'.length ≤ 140737488355328 := by
            have : (es.length + es'.length) * 1 ≤ (es.length + es'.length) * b := Nat.mul_le_mul_left _ hb0
            omega
          have hlen : (Builtin.lenOf (.slice base' es'.length cap')).run P w = .ok es'.length w := by simp [Builtin.lenOf]
          have hfc : ∀ d, (Builtin.firstCells i.size es'.length (.slice base' es'.length cap')).run P { w with drawn := d } = .ok ys.toArray { w with drawn := d } := fun d => by
            rw [hik]; exact Rel.firstCells hr hyl hnone' hbase' d
          split at h
          · rename_i hemp
            have hem : es' = [] := by simpa using hemp
            injection h with h; injection h with h1 h2; subst h1; subst h2
            have hy0 : ys = [] := List.eq_nil_of_length_eq_zero (by rw [hyl, hem]; simp)
            refine ⟨.slice base es.length cap, w, ρ, M, ?_, hs, hr, .refl⟩
            subst hem
            refine run_append_none' w t1 t2 t e eu i hu1 hu2 hi base es.length cap hcap _ hlen ?_
            have := hfc w.drawn
            rw [hy0] at this
            exact this
          · rename_i hemp
            have hpos : 0 < es'.length := by
              rcases Nat.eq_zero_or_pos es'.length with h | h
              · exact absurd (by simpa using List.eq_nil_of_length_eq_zero h) hemp
              · exact h
            -- a new block: what is left of the old store is τ
            have grow : ∀ (τ : Store), Rel ρ M τ w → τ.le σ → cap < es.length + es'.length →
                ∃ (y : Value) (w' : World) (ρ' : Names) (M' : Mem), (Builtin.append_ #[t1, t2] t #[.slice base es.length cap, .slice base' es'.length cap']).run P w = .ok y w' ∧
                  VR ρ' M' (.sl k (es ++ es') (.tok n)) y ∧ Rel ρ' M' (τ.up n .tok) w' ∧ Evo NS ρ M σ w ρ' M' (τ.up n .tok) w' := by
              intro τ hτ hle hlt
              have h63 : ((es.length + es'.length : Nat) : Int) ≤ 9223372036854775807 := by omega
              have hrun : ∃ gc, es.length + es'.length ≤ gc ∧ (Builtin.append_ #[t1, t2] t #[.slice base es.length cap, .slice base' es'.length cap']).run P w =
                  .ok (.slice (some ⟨w.heap.size, 0, none⟩) (es.length + es'.length) gc) (w.drew.alloc (.cells (xs ++ ys ++ (Builtin.zeroCells zv.cells (gc - (es.length + es'.length))).toList).toArray e)) := by
                cases base with
                | none =>
                  obtain ⟨hes0, hc0⟩ := hnone rfl
                  have hx0 : xs = [] := List.eq_nil_of_length_eq_zero (by rw [hxl, hes0]; simp)
                  have hn' := run_append_nil' (P := P) w t1 t2 t e eu i zv hu1 hu2 hi hzv (.slice base' es'.length cap') es'.length ys hlen (hfc _) hpos (by omega) (by
                    rw [hib]
                    have : es'.length * b ≤ (es.length + es'.length) * b := Nat.mul_le_mul_right _ (by omega)
                    omega)
                  refine ⟨grownCap w es'.length 0 e, ?_, ?_⟩
                  · have := grownCap_ge w es'.length 0 e; rw [hes0]; simpa using this
                  · subst hc0; subst hx0; subst hes0
                    simp only [List.length_nil, Nat.zero_add, List.nil_append] at hn' ⊢
                    rw [hn']
                    congr 3
                    apply Array.ext'; simp
                | some a =>
                  obtain ⟨hsp, hget⟩ := hbase a rfl
                  have holds : ∀ j v, xs[j]? = some v → w.cell? (a.add j) = some v := fun j v hv => by
                    have hsp : a.spot = none := hsp.resolve_left fun h => by subst h; simp at hv
                    have ha : a = ⟨a.block, a.off, none⟩ := by cases a; simp_all
                    rw [ha, Addr.add_mid]; exact hr.mem _ _ (hget j v hv)
                  have hg' := run_append_grow' (P := P) w t1 t2 t e eu i zv hu1 hu2 hi hzv a es.length cap xs (by rw [hik]; exact hxl) holds (.slice base' es'.length cap') es'.length ys hlen (hfc _) hlt h63
                    (by rw [hib]; exact growslice_fits hlt hbound)
                  refine ⟨grownCap w (es.length + es'.length) cap e, grownCap_ge .., ?_⟩
                  rw [hg']
                  congr 3
                  apply Array.ext'; simp
              obtain ⟨gc, hgc, hrun⟩ := hrun
              obtain ⟨zs, hzs'⟩ : ∃ zs : List Value, zs = (Builtin.zeroCells zv.cells (gc - (es.length + es'.length))).toList := ⟨_, rfl⟩
              rw [← hzs'] at hrun
              have hzl' : zs.length = (gc - (es.length + es'.length)) * k := by rw [hzs']; simp [Builtin.zeroCells, hzs]
              have hall : (xs ++ ys).length = (es ++ es').length * k := by simp [hxl, hyl, Nat.add_mul]
              have hd : Rel ρ M τ w.drew := hτ.drew _
              obtain ⟨h1, h2⟩ := hd.alloc_tok (NS := NS) (n := n) (xs ++ ys ++ zs) e ((es ++ es').length * k) ((gc - (es ++ es').length) * k) hn hN (by
                have : (xs ++ ys ++ zs).length = (xs ++ ys).length + zs.length := List.length_append
                rw [this, hall, hzl']; simp)
              refine ⟨_, _, _, _, hrun, ?_, h1, ?_⟩
              · have hl' : es.length + es'.length = (es ++ es').length := by simp
                rw [hl']
                refine VR.sl_new (xs := xs ++ ys ++ zs) (fun e he => ?_) ?_ (fun j hj => ?_) (by rw [← hl']; exact hgc) ⟨fun h => (by cases h), by simp⟩ (fun m hm => ?_)
                · rcases List.mem_append.1 he with h | h
                  · exact hesk e h
                  · exact hesk' e h
                · have : (xs ++ ys ++ zs).take ((es ++ es').length * k) = xs ++ ys := by rw [← hall]; exact List.take_left
                  rw [List.flatten_append, this]
                  exact (hvs.append hvs').mono h2.grows
                · rw [Nat.zero_add]; exact Mem.with_get hj
                · injection hm with hm; subst hm
                  rw [Names.up_same, Nat.zero_add]; rfl
              · have hsame : Evo NS ρ M σ w ρ M σ w.drew := .drew _
                refine ⟨h2.grows, h2.size, h2.os, h2.tape, h2.output, fun b hb ho => h2.keep b hb (fun h => ho (h.le hle)), fun b hb => ?_, fun a ha => ?_, h2.names, fun q hq => (h2.dom q hq).imp (hle.isSome) id⟩
                · rcases h2.own b hb with h | h
                  · exact .inl h
                  · exact .inr (h.le hle)
                · rcases h2.memNew a ha with h | h | h
                  · exact .inl h
                  · exact .inr (.inl h)
                  · exact .inr (.inr (h.le hle))
            split at h
            · injection h with h; injection h with h1 h2; subst h1; subst h2
              refine grow σ hr (Store.le_refl _) ?_
              have : cap = es.length ∨ base = none := by
                cases hs with
                | slnil _ => exact .inr rfl
                | slz _ _ => exact .inl rfl
                | sl _ _ hcc _ _ _ => exact .inl (hcc.1 rfl)
              rcases this with h | h
              · omega
              · have := (hnone h).2; omega
            · injection h with h; injection h with h1 h2; subst h1; subst h2
              refine grow σ hr (Store.le_refl _) ?_
              have h : base = none := by
                cases hs with
                | slnil _ => rfl
                | slz _ h => rcases h with h | h <;> cases h
                | sl _ _ hcc _ _ _ => exact absurd rfl hcc.2
              have := (hnone h).2; omega
            · rename_i m
              split at h
              · rename_i hm
                split at h
                · rename_i hone
                  injection h with h; injection h with h1 h2; subst h1; subst h2
                  by_cases hroom : es.length + es'.length ≤ cap
                  · -- in place
                    obtain ⟨hszk, hone⟩ := hone
                    subst hszk
                    have hpl : ∃ g o, base = some ⟨g, o, none⟩ ∧ ρ m = some ⟨g, o + es.length * sz, (cap - es.length) * sz⟩ := by
                      cases hs with
                      | slnil h => simp at h
                      | slz _ h => simp at h
                      | sl q1 q2 q3 q4 q5 q6 => exact ⟨_, _, rfl, q4 m rfl⟩
                    obtain ⟨g, o, rfl, hpm⟩ := hpl
                    obtain ⟨p, hp, cur, T, hh, hfit, hnoM⟩ := hr.lies m _ hm
                    rw [hpm] at hp; injection hp with hp; subst hp
                    simp only at hh hfit hnoM
                    have hold := (hbase _ rfl).2
                    simp only at hold
                    have hroomk : es.length * sz + es'.length * sz + (cap - es.length - es'.length) * sz = es.length * sz + (cap - es.length) * sz := by
                      rw [← Nat.add_mul, ← Nat.add_mul, ← Nat.add_mul]; congr 1; omega
                    have hfit' : o + es.length * sz + ys.length ≤ cur.size := by rw [hyl]; omega
                    have h1y : ∀ u ∈ ys, u.oneCell' = true := by
                      refine hvs'.one ?_
                      rw [List.all_eq_true]
                      intro v hv
                      obtain ⟨e, he, hve⟩ := List.mem_flatten.1 hv
                      exact List.all_eq_true.1 (List.all_eq_true.1 hone e he) v hve
                    have hrun := run_append_room' w t1 t2 t e eu T i hu1 hu2 hi g o es.length cap cur hh (.slice base' es'.length cap') es'.length ys hlen (hfc w.drawn) h1y hroom (by rw [hik]; exact hfit')
                    rw [hik] at hrun
                    obtain ⟨cur', hcur'⟩ : ∃ cur' : List Value, cur' = cur.toList.take (o + es.length * sz) ++ ys ++ cur.toList.drop (o + es.length * sz + ys.length) := ⟨_, rfl⟩
                    rw [← hcur'] at hrun
                    have hcl : cur'.length = cur.size := by rw [hcur']; simp; omega
                    -- the new memory
                    obtain ⟨mm, hmm⟩ : ∃ mm, mm = o + es.length * sz + es'.length * sz := ⟨_, rfl⟩
                    have hlow : ∀ j, j < o + es.length * sz → cur'[j]? = cur.toList[j]? := fun j hj => by
                      rw [hcur', List.append_assoc, List.getElem?_append_left (by simp; omega), List.getElem?_take, if_pos hj]
                    have hcurM : ∀ j x, M ⟨g, j, none⟩ = some x → j < o + es.length * sz ∧ cur.toList[j]? = some x := fun j x hx => by
                      have hlt : j < o + es.length * sz := by
                        rcases Nat.lt_or_ge j (o + es.length * sz) with h | h
                        · exact h
                        · rw [hnoM ⟨g, j, none⟩ rfl h] at hx; cases hx
                      have := hr.mem _ _ hx
                      unfold World.cell? at this
                      simp [hh] at this
                      exact ⟨hlt, by simpa using this⟩
                    have hgrow1 : Grows ρ M ρ (M.with g cur' mm) := Mem.grows_with (fun j x _ hx => by
                      obtain ⟨h1, h2⟩ := hcurM j x hx
                      rw [hlow j h1]; exact h2)
                    have hgrow : Grows ρ M (ρ.up n ⟨g, mm, (cap - es.length - es'.length) * sz⟩) (M.with g cur' mm) := hgrow1.trans (Names.grows_up _ _ _ _ hn)
                    have hother : ∀ b, b ≠ g → (w.setRow g cur'.toArray).heap[b]? = w.heap[b]? := fun b hb => by
                      simp [World.setRow, Array.getElem?_modify, Ne.symm hb]
                    have hnew : (w.setRow g cur'.toArray).heap[g]? = some (.cells cur'.toArray T (0, 0)) := setRow_heap w g cur _ T _ hh
                    have hMo : ∀ a : Addr, a.block ≠ g → (M.with g cur' mm) a = M a := fun a ha => by simp [Mem.with, ha]
                    have hown : Owned ρ σ g := ⟨m, _, by simp [hm], hpm, rfl⟩
                    refine ⟨_, _, ρ.up n ⟨g, mm, (cap - es.length - es'.length) * sz⟩, M.with g cur' mm, hrun, ?_, ?_, ?_⟩
                    · have hl' : es.length + es'.length = (es ++ es').length := by simp
                      rw [hl']
                      refine VR.sl_new (xs := cur'.drop o) (fun e he => ?_) ?_ (fun j hj => ?_) (by rw [← hl']; exact hroom) ⟨fun h => (by cases h), by simp⟩ (fun q hq => ?_)
                      · rcases List.mem_append.1 he with h | h
                        · exact hesk e h
                        · exact hesk' e h
                      · have : (cur'.drop o).take ((es ++ es').length * sz) = xs ++ ys := by
                          apply List.ext_getElem?
                          intro j
                          rw [List.getElem?_take, List.getElem?_drop]
                          have hsum : (es ++ es').length * sz = es.length * sz + es'.length * sz := by rw [← hl', Nat.add_mul]
                          split
                          · rename_i hj
                            by_cases hj1 : j < es.length * sz
                            · rw [List.getElem?_append_left (by omega), hlow _ (by omega)]
                              have hjx : j < xs.length := by omega
                              have := hcurM (o + j) _ (hold j xs[j] (List.getElem?_eq_getElem hjx))
                              rw [this.2, List.getElem?_eq_getElem hjx]
                            · rw [List.getElem?_append_right (by omega), hcur', List.append_assoc, List.getElem?_append_right (by simp; omega)]
                              rw [List.getElem?_append_left (by simp; omega)]
                              congr 1
                              simp; omega
                          · rename_i hj
                            rw [List.getElem?_eq_none (by simp; omega)]
                        rw [this, List.flatten_append]
                        exact (hvs.append hvs').mono hgrow
                      · rw [List.getElem?_drop]
                        refine Mem.with_get ?_
                        rw [hmm, ← hl', Nat.add_mul] at *
                        omega
                      · injection hq with hq; subst hq
                        rw [Names.up_same, hmm, ← hl']
                        congr 2
                        · rw [Nat.add_mul]; omega
                        · congr 1; omega
                    · refine (hr.le (Store.del_le σ m)).put hgrow (fun a x hx => ?_) (Names.up_same ..) ⟨cur'.toArray, T, hnew, ?_, fun a ha ho => ?_⟩ (fun q r hne hq hrq => ?_)
                      · by_cases ha : a.block = g
                        · unfold Mem.with at hx
                          split at hx
                          · rename_i hcnd
                            unfold World.cell?
                            rw [ha, hnew]
                            simpa [hcnd.2.1] using hx
                          · rename_i hcnd
                            have hsp : a.spot = none := by
                              have := hr.mem a x hx
                              unfold World.cell? at this
                              cases hsp : a.spot with
                              | none => rfl
                              | some _ => simp [ha, hh, hsp] at this
                            have ha' : a = ⟨g, a.off, none⟩ := by cases a; simp_all
                            have hlt := (hcurM a.off x (by rw [← ha']; exact hx)).1
                            exact absurd ⟨ha, hsp, by omega⟩ hcnd
                        · rw [hMo a ha] at hx
                          have := hr.mem a x hx
                          rw [← this]; unfold World.cell?; rw [hother _ ha]
                      · simp only [List.size_toArray, hcl, hmm]
                        omega
                      · have ha : a.block = g := ha
                        have ho : mm ≤ a.off := ho
                        have hno : ¬ (a.block = g ∧ a.spot = none ∧ a.off < mm) := fun h => by omega
                        unfold Mem.with
                        rw [if_neg hno]
                        exact hnoM a ha (by omega)
                      · have hqm : q ≠ m := fun e => by subst e; simp [Store.del] at hq
                        have hq' : (σ q).isSome = true := by simpa [Store.del, hqm] using hq
                        have hb : r.b ≠ g := fun e => hqm (hr.inj q m r _ hq' (by simp [hm]) hrq hpm e)
                        exact ⟨hb, hother _ hb, fun a ha hs => by rwa [hMo a (by rw [ha]; exact hb)] at hs⟩
                    · refine ⟨hgrow, by simp [World.setRow], rfl, rfl, rfl, fun b _ hb => hother b (fun e => hb (e ▸ hown)), fun b hb => ?_, fun a ha => ?_, fun q r hq hr' => ?_, ?dom⟩
                      case dom =>
                        intro q hq
                        by_cases e : q = n
                        · subst e; exact .inr hN
                        · rw [Store.up_get, if_neg e] at hq
                          have hqm : q ≠ m := fun e => by subst e; simp [Store.del] at hq
                          exact .inl (by simpa [Store.del, hqm] using hq)
                      · obtain ⟨q, r, hq, hrq, rfl⟩ := hb
                        by_cases e : q = n
                        · subst e; rw [Names.up_same] at hrq; injection hrq with hrq; subst hrq; exact .inr hown
                        · rw [Names.up_ne _ _ e] at hrq
                          rw [Store.up_get, if_neg e] at hq
                          have hqm : q ≠ m := fun e => by subst e; simp [Store.del] at hq
                          exact .inr ⟨q, r, by simpa [Store.del, hqm] using hq, hrq, rfl⟩
                      · by_cases e : a.block = g
                        · exact .inr (.inr (e ▸ hown))
                        · rw [hMo a e] at ha; exact .inl ha
                      · by_cases e : q = n
                        · subst e; exact hN
                        · rw [Names.up_ne _ _ e, hq] at hr'; cases hr'
                  · exact grow (σ.del m) (hr.le (Store.del_le _ _)) (Store.del_le _ _) (by omega)
                · cases h
              · cases h
            · cases h
        · cases h
      · cases h
    · cases h
  · cases h

end Go.Abs

/- append onto rows: slices that can be stored into. -/
set_option linter.unusedVariables false
set_option linter.unusedSimpArgs false
namespace Go.Abs

def aappendR (P : Program) (n : Nm) (σ : Store) (ts : Array TypeId) (s x : AV) : Option (AV × Store) :=
  match tyElem P (ts.getD 0 0), tyElem P (ts.getD 1 0) with
  | some e, some _ => match tySize P e, tyBytes P e, tyZero P e with
    | some k, some b, some z =>
      if ts.size = 2 ∧ 0 < k ∧ 0 < b ∧ z.length = k then
        match s, x with
        | .sl sz es c, .sl sz' es' _ =>
          if (es.isEmpty = true ∨ sz = k) ∧ (es'.isEmpty = true ∨ sz' = k) ∧ (es.length + es'.length) * b ≤ 140737488355328 then
            if es'.isEmpty = true then some (.sl sz es c, σ) else
            match c with
            | .exact => some (.slv (n.mk true) k (es.length + es'.length), σ.up (n.mk true) (.var (es.flatten ++ es'.flatten)))
            | .nil => some (.slv (n.mk true) k (es.length + es'.length), σ.up (n.mk true) (.var (es.flatten ++ es'.flatten)))
            | _ => none
          else none
        | .slv m sz len, .sl sz' es' _ => match σ m with
          | some (.var cs) =>
            if m.isRow = true ∧ sz = k ∧ len * k ≤ cs.length ∧ es'.isEmpty = false ∧ sz' = k ∧ es'.all (fun e => e.all AV.one) = true ∧ (len + es'.length) * b ≤ 140737488355328 then
              some (.slv (n.mk true) k (len + es'.length), (σ.del m).up (n.mk true) (.var (cs.take (len * k) ++ es'.flatten)))
            else none
          | _ => none
        | _, _ => none
      else none
    | _, _, _ => none
  | _, _ => none

section
variable {P : Program}
/-- append where a new block is laid. -/
theorem append_grow_run {w : World} {t1 t2 t e eu : TypeId} {i : TypeInfo} {zv : Value} (hu1 : P.underlying t1 = some (.slice e)) (hu2 : P.underlying t2 = some (.slice eu)) (hi : P.info? e = some i) (hzv : i.zero = some zv) (hzs : zv.cells.size = i.size) (hb0 : 0 < i.bytes)
    {base : Option Addr} {len cap : Nat} {xs : List Value} (hxl : xs.length = len * i.size) (hnone : base = none → len = 0 ∧ cap = 0)
    (hold : ∀ a, base = some a → ∀ j v, xs[j]? = some v → w.cell? (a.add j) = some v) {x : Value} {n : Nat} {ys : List Value} (hlen : (Builtin.lenOf x).run P w = .ok n w)
    (hfc : (Builtin.firstCells i.size n x).run P w.drew = .ok ys.toArray w.drew) (hpos : 0 < n) (hlt : cap < len + n) (hbound : (len + n) * i.bytes ≤ 140737488355328) :
    ∃ (gc : Nat) (zs : List Value), len + n ≤ gc ∧ (Builtin.append_ #[t1, t2] t #[.slice base len cap, x]).run P w = .ok (.slice (some ⟨w.heap.size, 0, none⟩) (len + n) gc) (w.drew.alloc (.cells (xs ++ ys ++ zs).toArray e)) ∧
      zs.length = (gc - (len + n)) * i.size := by
  have hneed : len + n ≤ 140737488355328 := by
    have : (len + n) * 1 ≤ (len + n) * i.bytes := Nat.mul_le_mul_left _ hb0
    omega
  have h63 : ((len + n : Nat) : Int) ≤ 9223372036854775807 := by omega
  cases base with
  | none =>
    obtain ⟨hes0, hc0⟩ := hnone rfl
    have hx0 : xs = [] := List.eq_nil_of_length_eq_zero (by rw [hxl, hes0]; simp)
    have hn' := run_append_nil' (P := P) w t1 t2 t e eu i zv hu1 hu2 hi hzv x n ys hlen hfc hpos (by omega) (by
      have : n * i.bytes ≤ (len + n) * i.bytes := Nat.mul_le_mul_right _ (by omega)
      omega)
    refine ⟨grownCap w n 0 e, (Builtin.zeroCells zv.cells (grownCap w n 0 e - n)).toList, ?_, ?_, ?_⟩
    · have := grownCap_ge w n 0 e; rw [hes0]; simpa using this
    · subst hc0; subst hx0; subst hes0
      simp only [Nat.zero_add, List.nil_append] at hn' ⊢
      rw [hn']
      congr 3
      apply Array.ext'; simp
    · subst hes0; simp [Builtin.zeroCells, hzs]
  | some a =>
    have hg' := run_append_grow' (P := P) w t1 t2 t e eu i zv hu1 hu2 hi hzv a len cap xs hxl (hold a rfl) x n ys hlen hfc hlt h63 (growslice_fits hlt hbound)
    refine ⟨grownCap w (len + n) cap e, (Builtin.zeroCells zv.cells (grownCap w (len + n) cap e - (len + n))).toList, grownCap_ge .., ?_, ?_⟩
    · rw [hg']
      congr 3
      apply Array.ext'; simp
    · simp [Builtin.zeroCells, hzs]

/-- A new block of rows; of the old store there is left τ. -/
theorem Rel.grow_row {ρ : Names} {M : Mem} {σ τ : Store} {w : World} {n : Nm} {NS : Nm → Prop} {cs : List AV} {xs : List Value} (zs : List Value) (e : TypeId) {k len cap : Nat} (hτ : Rel ρ M τ w) (hle : τ.le σ) (hn : ρ n = none) (hN : NS n)
    (hv : VRs ρ M cs xs) (hlc : len ≤ cap) (hcap : cap * k ≤ (xs ++ zs).length) :
    ∃ ρ', VR ρ' M (.slv n k len) (.slice (some ⟨w.heap.size, 0, none⟩) len cap) ∧ Rel ρ' M (τ.up n (.var cs)) (w.drew.alloc (.cells (xs ++ zs).toArray e)) ∧ Evo NS ρ M σ w ρ' M (τ.up n (.var cs)) (w.drew.alloc (.cells (xs ++ zs).toArray e)) := by
  have hd : Rel ρ M τ w.drew := hτ.drew _
  obtain ⟨h1, h2⟩ := hd.alloc_row (NS := NS) (n := n) zs e hn hN hv
  refine ⟨_, ?_, h1, ?_⟩
  · exact .slv (p := ⟨w.heap.size, 0, (xs ++ zs).length⟩) (Names.up_same ..) ⟨hlc, hcap⟩
  · refine ⟨h2.grows, h2.size, h2.os, h2.tape, h2.output, fun b hb ho => h2.keep b hb (fun h => ho (h.le hle)), fun b hb => ?_, fun a ha => ?_, h2.names, fun q hq => (h2.dom q hq).imp (hle.isSome) id⟩
    · rcases h2.own b hb with h | h
      · exact .inl h
      · exact .inr (h.le hle)
    · rcases h2.memNew a ha with h | h | h
      · exact .inl h
      · exact .inr (.inl h)
      · exact .inr (.inr (h.le hle))

/-- A row goes on under another name, its cells set anew. -/
theorem Rel.move_row {ρ : Names} {M : Mem} {σ : Store} {w : World} {n m : Nm} {NS : Nm → Prop} {cs cs' : List AV} {p : Pl} {xs' ys' : List Value} {cur : Array Value} {T : TypeId} (hr : Rel ρ M σ w) (hm : σ m = some (.var cs)) (hpm : ρ m = some p)
    (hh : w.heap[p.b]? = some (.cells cur T (0, 0))) (hn : ρ n = none) (hN : NS n) (hv : VRs ρ M cs' xs') (hk : p.k ≤ (xs' ++ ys').length) :
    Rel (ρ.up n p) M ((σ.del m).up n (.var cs')) (w.setRow p.b (xs' ++ ys').toArray) ∧ Evo NS ρ M σ w (ρ.up n p) M ((σ.del m).up n (.var cs')) (w.setRow p.b (xs' ++ ys').toArray) := by
  obtain ⟨q, hq, h0, zs, us, T', hh', _, hmm⟩ := hr.lies m _ hm
  rw [hpm] at hq; injection hq with hq; subst hq
  have hown : Owned ρ σ p.b := ⟨m, p, by simp [hm], hpm, rfl⟩
  have hgrow := Names.grows_up ρ M n p hn
  have hother : ∀ b, b ≠ p.b → (w.setRow p.b (xs' ++ ys').toArray).heap[b]? = w.heap[b]? := fun b hb => by
    simp [World.setRow, Array.getElem?_modify, Ne.symm hb]
  have hmem : ∀ a x, M a = some x → (w.setRow p.b (xs' ++ ys').toArray).cell? a = some x := fun a x hx => by
    have hne : a.block ≠ p.b := fun e => by rw [hmm a e] at hx; cases hx
    have := hr.mem a x hx
    rw [← this]; unfold World.cell?; rw [hother _ hne]
  refine ⟨(hr.le (Store.del_le σ m)).put hgrow hmem (Names.up_same ..) ⟨h0, xs', ys', T, setRow_heap w p.b cur _ T _ hh, ⟨hv.mono hgrow, hk⟩, hmm⟩ (fun q r hne hq hrq => ?_), ?_⟩
  · have hqm : q ≠ m := fun e => by subst e; simp [Store.del] at hq
    have hq' : (σ q).isSome = true := by simpa [Store.del, hqm] using hq
    have hb : r.b ≠ p.b := fun e => hqm (hr.inj q m r p hq' (by simp [hm]) hrq hpm e)
    exact ⟨hb, hother _ hb, fun a _ hs => hs⟩
  · refine ⟨hgrow, by simp [World.setRow], rfl, rfl, rfl, fun b _ hb => hother b (fun e => hb (e ▸ hown)), fun b hb => ?_, fun a ha => .inl ha, fun q r hq hr' => ?_, ?dom⟩
    case dom =>
      intro q hq
      by_cases e : q = n
      · subst e; exact .inr hN
      · rw [Store.up_get, if_neg e] at hq
        have hqm : q ≠ m := fun e => by subst e; simp [Store.del] at hq
        exact .inl (by simpa [Store.del, hqm] using hq)
    · obtain ⟨q, r, hq, hrq, rfl⟩ := hb
      by_cases e : q = n
      · subst e; rw [Names.up_same] at hrq; injection hrq with hrq; subst hrq; exact .inr hown
      · rw [Names.up_ne _ _ e] at hrq
        rw [Store.up_get, if_neg e] at hq
        have hqm : q ≠ m := fun e => by subst e; simp [Store.del] at hq
        exact .inr ⟨q, r, by simpa [Store.del, hqm] using hq, hrq, rfl⟩
    · by_cases e : q = n
      · subst e; exact hN
      · rw [Names.up_ne _ _ e, hq] at hr'; cases hr'

theorem aappendR_sound {ρ : Names} {M : Mem} {σ σ' : Store} {w : World} {n : Nm} {NS : Nm → Prop} {ts : Array TypeId} {t : TypeId} {s x v : AV} {s' x' : Value} (hr : Rel ρ M σ w) (hn : ρ (n.mk true) = none) (hN : NS (n.mk true))
    (hs : VR ρ M s s') (hx : VR ρ M x x') (h : aappendR P n σ ts s x = some (v, σ')) :
    ∃ (y : Value) (w' : World) (ρ' : Names) (M' : Mem), (Builtin.append_ ts t #[s', x']).run P w = .ok y w' ∧ VR ρ' M' v y ∧ Rel ρ' M' σ' w' ∧ Evo NS ρ M σ w ρ' M' σ' w' := by
  unfold aappendR at h
  split at h
  · rename_i e eu he heu
    split at h
    · rename_i k b z hk hb hz
      split at h
      · rename_i hc
        obtain ⟨hts, hk0, hb0, hzl⟩ := hc
        obtain ⟨t1, t2, rfl⟩ : ∃ t1 t2, ts = #[t1, t2] := by
          match ts, hts with
          | ⟨[a, b]⟩, _ => exact ⟨a, b, rfl⟩
        have hu1 : P.underlying t1 = some (.slice e) := tyElem_run he
        have hu2 : P.underlying t2 = some (.slice eu) := tyElem_run heu
        obtain ⟨i, hi, hik, hib, zv, hzv, hzc⟩ : ∃ i, P.info? e = some i ∧ i.size = k ∧ i.bytes = b ∧ ∃ zv, i.zero = some zv ∧ zv.cells.toList.map ofCell = z := by
          cases hi : P.info? e with
          | none => simp [tySize, hi] at hk
          | some i =>
            cases hzz : i.zero with
            | none => simp [tyZero, hi, hzz] at hz
            | some zv => exact ⟨i, rfl, by simpa [tySize, hi] using hk, by simpa [tyBytes, hi] using hb, zv, hzz, by simpa [tyZero, hi, hzz] using hz⟩
        have hzs : zv.cells.size = i.size := by have := congrArg List.length hzc; simp at this; omega
        subst hik; subst hib
        split at h
        · rename_i sz es c sz' es' c'
          split at h
          · rename_i hc
            obtain ⟨hsz, hsz', hbound⟩ := hc
            obtain ⟨base, cap, xs, rfl, hcap, hese, hvs, hnone, hbase⟩ := VR.sl_cells hr hs
            obtain ⟨base', cap', ys, rfl, hcap', hese', hvs', hnone', hbase'⟩ := VR.sl_cells hr hx
            have hesk : ∀ e, e ∈ es → e.length = i.size := fun e he => by
              rcases hsz with h | h
              · have : es = [] := by simpa using h
                subst this; simp at he
              · rw [← h]; exact hese e he
            have hesk' : ∀ e, e ∈ es' → e.length = i.size := fun e he => by
              rcases hsz' with h | h
              · have : es' = [] := by simpa using h
                subst this; simp at he
              · rw [← h]; exact hese' e he
            have hxl : xs.length = es.length * i.size := hvs.len_flatten hesk
            have hyl : ys.length = es'.length * i.size := hvs'.len_flatten hesk'
            have hlen : (Builtin.lenOf (.slice base' es'.length cap')).run P w = .ok es'.length w := by simp [Builtin.lenOf]
            have hfc : ∀ d, (Builtin.firstCells i.size es'.length (.slice base' es'.length cap')).run P { w with drawn := d } = .ok ys.toArray { w with drawn := d } := fun d => Rel.firstCells hr hyl hnone' hbase' d
            split at h
            · rename_i hemp
              have hem : es' = [] := by simpa using hemp
              injection h with h; injection h with h1 h2; subst h1; subst h2
              have hy0 : ys = [] := List.eq_nil_of_length_eq_zero (by rw [hyl, hem]; simp)
              refine ⟨.slice base es.length cap, w, ρ, M, ?_, hs, hr, .refl⟩
              subst hem
              refine run_append_none' w t1 t2 t e eu i hu1 hu2 hi base es.length cap hcap _ hlen ?_
              have := hfc w.drawn
              rw [hy0] at this
              exact this
            · rename_i hemp
              have hpos : 0 < es'.length := by
                rcases Nat.eq_zero_or_pos es'.length with h | h
                · exact absurd (by simpa using List.eq_nil_of_length_eq_zero h) hemp
                · exact h
              have main : cap < es.length + es'.length → some (AV.slv (n.mk true) i.size (es.length + es'.length), σ.up (n.mk true) (.var (es.flatten ++ es'.flatten))) = some (v, σ') →
                  ∃ (y : Value) (w' : World) (ρ' : Names) (M' : Mem), (Builtin.append_ #[t1, t2] t #[.slice base es.length cap, .slice base' es'.length cap']).run P w = .ok y w' ∧ VR ρ' M' v y ∧ Rel ρ' M' σ' w' ∧ Evo NS ρ M σ w ρ' M' σ' w' := by
                intro hlt h
                injection h with h; injection h with h1 h2; subst h1; subst h2
                obtain ⟨gc, zs, hgc, hrun, hzl'⟩ := append_grow_run (P := P) (t := t) hu1 hu2 hi hzv hzs hb0 (base := base) (cap := cap) hxl (fun h => ⟨by rw [(hnone h).1]; rfl, (hnone h).2⟩) (fun a ha j v hv => by
                  obtain ⟨hsp, hget⟩ := hbase a ha
                  have hsp : a.spot = none := hsp.resolve_left fun h => by subst h; simp at hv
                  have ha : a = ⟨a.block, a.off, none⟩ := by cases a; simp_all
                  rw [ha, Addr.add_mid]; exact hr.mem _ _ (hget j v hv)) hlen (hfc _) hpos hlt hbound
                obtain ⟨ρ', h1, h2, h3⟩ := hr.grow_row (NS := NS) (n := n.mk true) zs e (k := i.size) (len := es.length + es'.length) (cap := gc) (Store.le_refl _) hn hN (hvs.append hvs') hgc (by
                  have : gc * i.size = (es.length + es'.length) * i.size + (gc - (es.length + es'.length)) * i.size := by rw [← Nat.add_mul]; congr 1; omega
                  simp only [List.length_append, hxl, hyl, hzl', this, Nat.add_mul]
                  omega)
                exact ⟨_, _, ρ', M, hrun, h1, h2, h3⟩
              split at h
              · refine main ?_ h
                have : cap = es.length ∨ base = none := by
                  cases hs with
                  | slnil _ => exact .inr rfl
                  | slz _ _ => exact .inl rfl
                  | sl _ _ hcc _ _ _ => exact .inl (hcc.1 rfl)
                rcases this with h | h
                · omega
                · have := (hnone h).2; omega
              · refine main ?_ h
                have h : base = none := by
                  cases hs with
                  | slnil _ => rfl
                  | slz _ h => rcases h with h | h <;> cases h
                  | sl _ _ hcc _ _ _ => exact absurd rfl hcc.2
                have := (hnone h).2; omega
              · cases h
          · cases h
        · rename_i m sz len sz' es' c'
          split at h
          · rename_i cs hm
            split at h
            · rename_i hc
              obtain ⟨hrow, hsz, hle, hemp, hsz', hone, hbound⟩ := hc
              subst hsz; subst hsz'
              injection h with h; injection h with h1 h2; subst h1; subst h2
              obtain ⟨base', cap', ys, rfl, hcap', hese', hvs', hnone', hbase'⟩ := VR.sl_cells hr hx
              have hyl : ys.length = es'.length * i.size := hvs'.len_flatten hese'
              have hlen : (Builtin.lenOf (.slice base' es'.length cap')).run P w = .ok es'.length w := by simp [Builtin.lenOf]
              have hfc : ∀ d, (Builtin.firstCells i.size es'.length (.slice base' es'.length cap')).run P { w with drawn := d } = .ok ys.toArray { w with drawn := d } := fun d => Rel.firstCells hr hyl hnone' hbase' d
              have hpos : 0 < es'.length := by
                rcases Nat.eq_zero_or_pos es'.length with h | h
                · have : es' = [] := List.eq_nil_of_length_eq_zero h
                  subst this; simp at hemp
                · exact h
              cases hs with
              | slv hp hcc =>
                rename_i cap p
                obtain ⟨hlc, hck⟩ := hcc
                obtain ⟨q, hq, h0, xs, us, T, hh, ⟨hxs, hpk⟩, hmm⟩ := hr.lies m _ hm
                rw [hp] at hq; injection hq with hq; subst hq
                have hxsl := hxs.len
                have hvn : VRs ρ M (cs.take (len * i.size) ++ es'.flatten) (xs.take (len * i.size) ++ ys) := (hxs.take _).append hvs'
                rw [h0]
                by_cases hroom : len + es'.length ≤ cap
                · have h1y : ∀ u ∈ ys, u.oneCell' = true := by
                    refine hvs'.one ?_
                    rw [List.all_eq_true]
                    intro v hv
                    obtain ⟨e, he, hve⟩ := List.mem_flatten.1 hv
                    exact List.all_eq_true.1 (List.all_eq_true.1 hone e he) v hve
                  have hmul : (len + es'.length) * i.size ≤ cap * i.size := Nat.mul_le_mul_right _ hroom
                  rw [Nat.add_mul] at hmul
                  simp only [List.length_append] at hpk
                  have hrun := run_append_room' (P := P) w t1 t2 t e eu T i hu1 hu2 hi p.b 0 len cap (xs ++ us).toArray hh (.slice base' es'.length cap') es'.length ys hlen (hfc w.drawn) h1y hroom (by simp; omega)
                  have e1 : (xs ++ us).take (0 + len * i.size) = xs.take (len * i.size) := by rw [Nat.zero_add]; exact List.take_append_of_le_length (by omega)
                  rw [e1] at hrun
                  obtain ⟨h1, h2⟩ := hr.move_row (NS := NS) (n := n.mk true) (ys' := (xs ++ us).drop (0 + len * i.size + ys.length)) hm hp hh hn hN hvn (by simp; omega)
                  refine ⟨_, _, _, M, hrun, ?_, h1, h2⟩
                  rw [← h0]
                  exact .slv (Names.up_same ..) ⟨hroom, hck⟩
                · have hxt : (xs.take (len * i.size)).length = len * i.size := by rw [List.length_take]; omega
                  obtain ⟨gc, zs, hgc, hrun, hzl'⟩ := append_grow_run (P := P) (t := t) hu1 hu2 hi hzv hzs hb0 (base := some ⟨p.b, 0, none⟩) (cap := cap) hxt (by simp) (fun a ha j v hv => by
                    injection ha with ha; subst ha
                    rw [Addr.add_mid]
                    have hj : j < len * i.size := by
                      have := (List.getElem?_eq_some_iff.1 hv).1
                      rw [hxt] at this; exact this
                    rw [List.getElem?_take, if_pos hj] at hv
                    have hv' : (xs ++ us)[j]? = some v := by rw [List.getElem?_append_left (List.getElem?_eq_some_iff.1 hv).1]; exact hv
                    unfold World.cell?
                    simp only [hh, Nat.zero_add]
                    simpa using hv') hlen (hfc _) hpos (by omega) hbound
                  obtain ⟨ρ', h1, h2, h3⟩ := (hr.le (Store.del_le σ m)).grow_row (NS := NS) (n := n.mk true) zs e (k := i.size) (len := len + es'.length) (cap := gc) (Store.del_le _ _) hn hN hvn hgc (by
                    have : gc * i.size = (len + es'.length) * i.size + (gc - (len + es'.length)) * i.size := by rw [← Nat.add_mul]; congr 1; omega
                    simp only [List.length_append, hxt, hyl, hzl', this, Nat.add_mul]
                    omega)
                  exact ⟨_, _, ρ', M, hrun, h1, h2, h3⟩
            · cases h
          · cases h
        · cases h
      · cases h
    · cases h
  · cases h
end
end Go.Abs

/- Maps whose keys are numbers, strings or truth values. -/
set_option linter.unusedVariables false
set_option linter.unusedSimpArgs false
namespace Go.Abs
open Go.MapKept
section
variable (P : Program)
def tyMap (t : TypeId) : Option (TypeId × TypeId) := match P.underlying t with
  | some (.map k e) => some (k, e)
  | _ => none
/-- Is a value a key of the type? -/
def keyFits (kt : TypeId) (k : AV) : Bool := match P.underlying kt, k with
  | some (.int j), .int j' _ => decide (j = j')
  | some .string, .str _ => true
  | some .bool, .bool _ => true
  | _, _ => false
def sameKey : AV → AV → Option Bool
  | .int j a, .int j' b => if j = j' then some (a == b) else none
  | .str a, .str b => some (a == b)
  | .bool a, .bool b => some (a == b)
  | _, _ => none
def afind (k : AV) : List (AV × AV) → Nat → Option (Option (Nat × AV))
  | [], _ => some none
  | e :: es, i => match sameKey k e.1 with
    | some true => some (some (i, e.2))
    | some false => afind k es (i + 1)
    | none => none
/-- The zero value of a type, as a value. -/
def tyZeroV (t : TypeId) : Option AV := (P.info? t).bind fun i => i.zero.map ofValue
def amapOf (σ : Store) (x : AV) : Option (List (AV × AV)) := match x with
  | .nilmap => some []
  | .map n => match σ n with
    | some (.map es) => some es
    | _ => none
  | _ => none
def alookup (σ : Store) (t : TypeId) (x k : AV) (ok : Bool) : Option AV :=
  match tyMap P t, amapOf σ x with
  | some (kt, et), some es => if keyFits P kt k = true then
      match afind k es 0 with
      | some (some (_, v)) => some (if ok = true then .tup [v, .bool true] else v)
      | some none => (tyZeroV P et).map fun v => if ok = true then .tup [v, .bool false] else v
      | none => none
    else none
  | _, _ => none
def amapUpdate (σ : Store) (t : TypeId) (m k v : AV) : Option Store :=
  match m, tyMap P t with
  | .map n, some (kt, _) => match σ n with
    | some (.map es) => if keyFits P kt k = true then
        match afind k es 0 with
        | some (some (i, _)) => some (σ.up n (.map (es.set i (k, v))))
        | some none => some (σ.up n (.map (es ++ [(k, v)])))
        | none => none
      else none
    | _ => none
  | _, _ => none
end
section
variable {P : Program} {ρ : Names} {M : Mem} {σ : Store} {w : World}
theorem tyMap_run {t kt et : TypeId} (h : tyMap P t = some (kt, et)) : P.underlying t = some (.map kt et) := by
  unfold tyMap at h; split at h
  · rename_i hd; injection h with h; injection h with h1 h2; subst h1; subst h2; exact hd
  · cases h
theorem keyFits_run {kt : TypeId} {k : AV} {x : Value} (h : keyFits P kt k = true) (hv : VR ρ M k x) : ∃ d, P.underlying kt = some d ∧ IsKey d x ∧ ∀ (k' : AV) (y : Value) (r : Bool), VR ρ M k' y → sameKey k k' = some r → Instr.sameNow d x y = some r := by
  unfold keyFits at h
  split at h
  · rename_i hd
    cases hv
    refine ⟨_, hd, by simpa [IsKey, eq_comm] using h, fun k' y r hy hs => ?_⟩
    cases hy <;> simp only [sameKey] at hs <;> first | (cases hs; done) | skip
    split at hs
    · rename_i e; injection hs with hs; subst hs; simp [Instr.sameNow, e]
    · cases hs
  · rename_i hd
    cases hv
    refine ⟨_, hd, trivial, fun k' y r hy hs => ?_⟩
    cases hy <;> simp only [sameKey] at hs <;> first | (cases hs; done) | skip
    injection hs with hs; subst hs; simp [Instr.sameNow]
  · rename_i hd
    cases hv
    refine ⟨_, hd, trivial, fun k' y r hy hs => ?_⟩
    cases hy <;> simp only [sameKey] at hs <;> first | (cases hs; done) | skip
    injection hs with hs; subst hs; simp [Instr.sameNow]
  · cases h
theorem afind_run {d : TypeDesc} {k : AV} {x : Value} (hs : ∀ (k' : AV) (y : Value) (r : Bool), VR ρ M k' y → sameKey k k' = some r → Instr.sameNow d x y = some r) : ∀ (es : List (AV × AV)) (xs : List MapEntry) (i : Nat) (r : Option (Nat × AV)), es.length = xs.length →
    (∀ (i : Nat) (e : AV × AV) (y : MapEntry), es[i]? = some e → xs[i]? = some y → VR ρ M e.1 y.key ∧ VR ρ M e.2 y.val) → afind k es i = some r →
    (r = none ∧ Instr.findNow d x xs i = some none) ∨ ∃ (j : Nat) (v : AV) (y : MapEntry), r = some (i + j, v) ∧ xs[j]? = some y ∧ es[j]?.map (·.2) = some v ∧ Instr.findNow d x xs i = some (some (i + j, y.val)) ∧ ∃ e, es[j]? = some e ∧ sameKey k e.1 = some true
  | [], [], i, r, _, _, h => by simp only [afind, Option.some.injEq] at h; subst h; exact .inl ⟨rfl, rfl⟩
  | e :: es, y :: xs, i, r, hl, hv, h => by
    obtain ⟨h1, h2⟩ := hv 0 e y rfl rfl
    unfold afind at h
    split at h
    · rename_i hk
      injection h with h; subst h
      have := hs _ _ _ h1 hk
      exact .inr ⟨0, e.2, y, rfl, rfl, rfl, by simp [Instr.findNow, this], e, rfl, hk⟩
    · rename_i hk
      have := hs _ _ _ h1 hk
      rcases afind_run hs es xs (i + 1) r (by simpa using hl) (fun i e y he hy => hv (i + 1) e y (by simpa using he) (by simpa using hy)) h with ⟨g1, g2⟩ | ⟨j, v, y', g1, g2, g3, g4, e', g5, g6⟩
      · exact .inl ⟨g1, by simp [Instr.findNow, this, g2]⟩
      · exact .inr ⟨j + 1, v, y', by rw [g1]; congr 2; omega, by simpa using g2, by simpa using g3, by simp [Instr.findNow, this, g4]; omega, e', by simpa using g5, g6⟩
    · cases h
  | [], _ :: _, _, _, hl, _, _ => by simp at hl
  | _ :: _, [], _, _, hl, _, _ => by simp at hl
theorem tyZeroV_run {t : TypeId} {v : AV} (h : tyZeroV P t = some v) (w : World) : ∃ x : Value, (zeroValue t).run P w = .ok x w ∧ VR ρ M v x := by
  unfold tyZeroV at h
  cases hi : P.info? t with
  | none => simp [hi] at h
  | some i =>
    cases hzz : i.zero with
    | none => simp [hi, hzz] at h
    | some x =>
      simp [hi, hzz] at h
      subst h
      exact ⟨x, by simp [zeroValue, typeInfo, hi, hzz], .ofValue ρ M x⟩

/-- What lies in a map. -/
theorem amapOf_run {x : AV} {y : Value} {es : List (AV × AV)} (hr : Rel ρ M σ w) (hv : VR ρ M x y) (h : amapOf σ x = some es) :
    ∃ xs : List MapEntry, (y = .map none ∧ xs = [] ∨ ∃ b clock, y = .map (some b) ∧ w.heap[b]? = some (.map xs.toArray clock)) ∧ es.length = xs.length ∧
      ∀ (i : Nat) (e : AV × AV) (y : MapEntry), es[i]? = some e → xs[i]? = some y → VR ρ M e.1 y.key ∧ VR ρ M e.2 y.val := by
  unfold amapOf at h
  split at h
  · injection h with h; subst h
    cases hv
    exact ⟨[], .inl ⟨rfl, rfl⟩, rfl, by simp⟩
  · rename_i n
    split at h
    · rename_i es' hn
      injection h with h; subst h
      cases hv with
      | map hp =>
        rename_i p
        obtain ⟨q, hq, xs, clock, hh, hl, hvs⟩ := hr.lies n _ hn
        rw [hp] at hq; injection hq with hq; subst hq
        exact ⟨xs.toList, .inr ⟨p.b, clock, rfl, by simpa using hh⟩, by simpa using hl, fun i e y he hy => hvs i e y he (by simpa using hy)⟩
    · cases h
  · cases h

theorem alookup_sound {t : TypeId} {x k v : AV} {y z : Value} {ok : Bool} (hr : Rel ρ M σ w) (hx : VR ρ M x y) (hk : VR ρ M k z) (h : alookup P σ t x k ok = some v) :
    ∃ u : Value, (Instr.lookup t y z ok).run P w = .ok u w ∧ VR ρ M v u := by
  unfold alookup at h
  split at h
  · rename_i kt et es hm hes
    split at h
    · rename_i hf
      obtain ⟨d, hd, hkey, hsame⟩ := keyFits_run hf hk
      obtain ⟨xs, hxs, hl, hvs⟩ := amapOf_run hr hx hes
      have hck := fun em n => run_checkKey (w := w) hd hkey em n
      have hrun : ∀ a, Instr.findNow d z xs 0 = some a → (Instr.lookup t y z ok).run P w = (do
          let (v, ok') ← match a with
            | some (_, v) => pure (v, true)
            | none => pure (← zeroValue et, false)
          pure (if ok then .tuple #[v, .bool ok'] else v) : Sem Value).run P w := fun a ha => by
        have hfk := run_findKey (w := w) hd ha
        unfold Instr.lookup
        simp only [Sem.run_bind, run_underlying (tyMap_run hm), Result.andThen_ok]
        rcases hxs with ⟨rfl, rfl⟩ | ⟨b, clock, rfl, hb⟩
        · simp only [Sem.run_bind, Sem.run_pure, Result.andThen_ok, hck]
          rw [hfk]; rfl
        · simp only [Sem.run_bind, Go.MapKept.run_getObj_map hb, Result.andThen_ok, Sem.run_pure, hck]
          rw [hfk]; rfl
      split at h
      · rename_i i v' hfd
        rcases afind_run hsame es xs 0 _ hl hvs hfd with ⟨h1, _⟩ | ⟨j, u, yv, h1, h2, h3, h4, _⟩
        · cases h1
        · injection h1 with h1; injection h1 with _ h1; subst h1
          rw [hrun _ h4]
          obtain ⟨e, he, hev⟩ : ∃ e, es[j]? = some e ∧ e.2 = v' := by
            cases he : es[j]? with
            | none => simp [he] at h3
            | some e => simp [he] at h3; exact ⟨e, rfl, h3⟩
          have hv2 := (hvs j e yv he h2).2
          rw [hev] at hv2
          cases ok with
          | true => simp at h; subst h; exact ⟨.tuple #[yv.val, .bool true], by simp, VR.tup_iff.2 ⟨[yv.val, .bool true], rfl, .cons hv2 (.cons (.bool _) .nil)⟩⟩
          | false => simp at h; subst h; exact ⟨yv.val, by simp, hv2⟩
      · rename_i hfd
        rcases afind_run hsame es xs 0 _ hl hvs hfd with ⟨_, h2⟩ | ⟨j, u, yv, h1, _⟩
        · rw [hrun _ h2]
          cases hz : tyZeroV P et with
          | none => simp [hz] at h
          | some zv =>
            obtain ⟨zx, hzx, hzv⟩ := tyZeroV_run (ρ := ρ) (M := M) hz w
            cases ok with
            | true => simp [hz] at h; subst h; exact ⟨.tuple #[zx, .bool false], by simp [hzx], VR.tup_iff.2 ⟨[zx, .bool false], rfl, .cons hzv (.cons (.bool _) .nil)⟩⟩
            | false => simp [hz] at h; subst h; exact ⟨zx, by simp [hzx], hzv⟩
        · cases h1
      · cases h
    · cases h
  · cases h

theorem sameKey_bits {d : TypeDesc} {k k' : AV} {x y : Value} (h : sameKey k k' = some true) (h1 : VR ρ M k x) (h2 : VR ρ M k' y) (n : Nat) : Instr.sameBits (n + 1) y x = true := by
  unfold sameKey at h
  split at h
  · split at h
    · rename_i e; subst e; cases h1; cases h2; simp at h; simp [Instr.sameBits, h]
    · cases h
  · cases h1; cases h2; simp only [Option.some.injEq] at h; have := (bytes_beq _ _).1 h; subst this; exact (bytes_beq _ _).2 rfl
  · cases h1; cases h2; simp at h; simp [Instr.sameBits, h]
  · cases h

theorem amapUpdate_sound {NS : Nm → Prop} {σ' : Store} {t : TypeId} {m k v : AV} {x y z : Value} (hr : Rel ρ M σ w) (hm : VR ρ M m x) (hk : VR ρ M k y) (hv : VR ρ M v z) (h : amapUpdate P σ t m k v = some σ') :
    ∃ w' : World, (Instr.mapUpdate t x y z).run P w = .ok () w' ∧ Rel ρ M σ' w' ∧ Evo NS ρ M σ w ρ M σ' w' := by
  unfold amapUpdate at h
  split at h
  · rename_i n kt et hty
    split at h
    · rename_i es hn
      split at h
      · rename_i hf
        cases hm with
        | map hp =>
          rename_i p
          obtain ⟨q, hq, xs, clock, hh, hl, hvs⟩ := hr.lies n _ hn
          rw [hp] at hq; injection hq with hq; subst hq
          obtain ⟨d, hd, hkey, hsame⟩ := keyFits_run hf hk
          have hck := fun em j => run_checkKey (w := w) hd hkey em j
          have hown : Owned ρ σ p.b := ⟨n, p, by simp [hn], hp, rfl⟩
          -- the map is set anew
          have fin : ∀ (es' : List (AV × AV)) (xs' : Array MapEntry) (clock' : Nat), es'.length = xs'.size → (∀ (i : Nat) (e : AV × AV) (x : MapEntry), es'[i]? = some e → xs'[i]? = some x → VR ρ M e.1 x.key ∧ VR ρ M e.2 x.val) →
              Rel ρ M (σ.up n (.map es')) { w with heap := w.heap.setIfInBounds p.b (.map xs' clock') } ∧ Evo NS ρ M σ w ρ M (σ.up n (.map es')) { w with heap := w.heap.setIfInBounds p.b (.map xs' clock') } := by
            intro es' xs' clock' hl' hvs'
            obtain ⟨g1, g2⟩ := heap_set (o' := .map xs' clock') hh
            have hmem : ∀ a x, M a = some x → World.cell? { w with heap := w.heap.setIfInBounds p.b (.map xs' clock') } a = some x := fun a x hx => by
              have h0 := hr.mem a x hx
              have hne : a.block ≠ p.b := fun e => by unfold World.cell? at h0; rw [e, hh] at h0; simp at h0
              rw [← h0]; unfold World.cell?; rw [g2 _ hne]
            refine ⟨hr.put .refl hmem hp ⟨xs', clock', g1, hl', hvs'⟩ (fun m q hne hm' hq => ?_), ?_⟩
            · have : q.b ≠ p.b := fun e => hne (hr.inj m n q p hm' (by simp [hn]) hq hp e)
              exact ⟨this, g2 _ this, fun a _ ha => ha⟩
            · refine ⟨.refl, by simp, rfl, rfl, rfl, fun b _ hb => g2 b (fun e => hb (e ▸ hown)), fun b hb => ?_, fun a ha => .inl ha, fun m p hm hp => (by rw [hm] at hp; cases hp), fun m hm => ?_⟩
              · obtain ⟨m, q, hm', hq, rfl⟩ := hb
                by_cases e : m = n
                · subst e; rw [hp] at hq; injection hq with hq; subst hq; exact .inr hown
                · rw [Store.up_get, if_neg e] at hm'; exact .inr ⟨m, q, hm', hq, rfl⟩
              · by_cases e : m = n
                · subst e; exact .inl (by simp [hn])
                · rw [Store.up_get, if_neg e] at hm; exact .inl hm
          have hl2 : es.length = xs.toList.length := by simpa using hl
          have hvs2 : ∀ (i : Nat) (e : AV × AV) (y : MapEntry), es[i]? = some e → xs.toList[i]? = some y → VR ρ M e.1 y.key ∧ VR ρ M e.2 y.val := fun i e y he hy => hvs i e y he (by simpa using hy)
          split at h
          · rename_i i u hfd
            injection h with h; subst h
            rcases afind_run hsame es xs.toList 0 _ hl2 hvs2 hfd with ⟨h1, _⟩ | ⟨j, u', yv, h1, h2, h3, h4, e, he, hsk⟩
            · cases h1
            · injection h1 with h1; injection h1 with h1 _
              have hij : i = j := by omega
              subst hij
              have h2' : xs[i]? = some yv := by simpa using h2
              have hbits := sameKey_bits (d := d) hsk hk (hvs2 i e yv he h2).1 9999
              obtain ⟨g1, g2⟩ := fin (es.set i (k, v)) (xs.modify i fun e => { e with key := y, val := z }) clock (by simp [hl]) (fun i' e' x' he' hx' => by
                rw [List.getElem?_set] at he'
                rw [Array.getElem?_modify] at hx'
                by_cases e1 : i = i'
                · subst e1
                  rw [if_pos rfl] at he' hx'
                  split at he'
                  · injection he' with he'; subst he'
                    rw [h2'] at hx'; simp at hx'; subst hx'
                    exact ⟨hk, hv⟩
                  · cases he'
                · rw [if_neg e1] at he' hx'
                  exact hvs i' e' x' he' hx')
              refine ⟨_, ?_, g1, g2⟩
              have hfk := run_findKey (w := w) hd h4
              unfold Instr.mapUpdate
              simp only [Sem.run_bind, run_underlying (tyMap_run hty), Result.andThen_ok, Go.MapKept.run_getObj_map hh, hck, hfk, Nat.zero_add, h2', Option.map_some, Option.getD_some]
              simp only [Instr.keyThatStays, hbits, if_true, Sem.run_pure, Result.andThen_ok, run_setObj_map _ hh]
          · rename_i hfd
            injection h with h; subst h
            rcases afind_run hsame es xs.toList 0 _ hl2 hvs2 hfd with ⟨_, h2⟩ | ⟨j, u', yv, h1, _⟩
            · obtain ⟨g1, g2⟩ := fin (es ++ [(k, v)]) (xs.push { key := y, val := z, born := clock }) (clock + 1) (by simp [hl]) (fun i e x he hx => by
                rw [Array.getElem?_push] at hx
                by_cases e1 : i = xs.size
                · rw [if_pos e1] at hx
                  rw [List.getElem?_append_right (by omega), hl, e1] at he
                  simp at he hx; subst he; subst hx
                  exact ⟨hk, hv⟩
                · rw [if_neg e1] at hx
                  have : i < xs.size := (Array.getElem?_eq_some_iff.1 hx).1
                  rw [List.getElem?_append_left (by omega)] at he
                  exact hvs i e x he hx)
              refine ⟨_, ?_, g1, g2⟩
              have hfk := run_findKey (w := w) hd h2
              unfold Instr.mapUpdate
              simp only [Sem.run_bind, run_underlying (tyMap_run hty), Result.andThen_ok, Go.MapKept.run_getObj_map hh, hck, hfk, run_setObj_map _ hh]
            · cases h1
          · cases h
      · cases h
    · cases h
  · cases h
end
end Go.Abs
