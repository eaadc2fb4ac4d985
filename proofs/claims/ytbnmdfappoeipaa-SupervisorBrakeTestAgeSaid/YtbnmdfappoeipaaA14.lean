/- From the rows' readings to the walk's values, and back. -/
import Derived.Test.YtbnmdfappoeipaaA13
import Derived.ProofKit
import Derived.OpenShut
set_option linter.unusedVariables false
set_option linter.unusedSimpArgs false
namespace Go.Abs
open Go.ChangeShapes Go.WideShapes Go.ChangeAt Go.RowKit

/-- All of memory, as it lies. -/
def memOf (w : World) : Mem := fun a => w.cell? a
def noNames : Names := fun _ => none

/-- What is read of a type's cells: a datum of α, told by its cells. -/
structure Reads (P : Program) (t : TypeId) {α : Type} (cells : α → List AV) (wf : α → Prop) : Prop where
  mk ::
  read : ∀ {H : Type} {enc : TypeId × Value → H} {w : World} {fuel : Nat} {cs : List Value} {x : DataW H × List MemPlace},
    DataW.trod enc P w 0 (fun _ => true) true fuel t cs = some x → ∃ a : α, wf a ∧ VRs noNames (memOf w) (cells a) cs

theorem VRs.one_ {ρ : Names} {M : Mem} {v : AV} {x : Value} (h : VR ρ M v x) : VRs ρ M [v] [x] := .cons h .nil

section
variable {P : Program} {t e : TypeId}
theorem Reads.int {k : IntKind} (ht : P.underlying t = some (.int k)) : Reads P t (fun n : Int => [.int k n]) (fun n => k.min ≤ n ∧ n ≤ k.max) := ⟨fun h => by
  obtain ⟨n, rfl, _, hw⟩ := DataW.trod_int ht h
  exact ⟨n, by simpa [Lit.wf] using hw, .one_ (.int _ _)⟩⟩
theorem Reads.bool (ht : P.underlying t = some .bool) : Reads P t (fun b : Bool => [.bool b]) (fun _ => True) := ⟨fun h => by
  obtain ⟨b, rfl, _⟩ := DataW.trod_bool ht h
  exact ⟨b, trivial, .one_ (.bool _)⟩⟩
theorem Reads.string (ht : P.underlying t = some .string) : Reads P t (fun s : ByteArray => [.str s]) (fun s => s.size ≤ maxLen) := ⟨fun h => by
  obtain ⟨s, rfl, _, hs⟩ := DataW.trod_string ht h
  exact ⟨s, hs, .one_ (.str _)⟩⟩
theorem Reads.map {α β : Type} {c : α → List AV} {w : α → Prop} {c' : β → List AV} {w' : β → Prop} (h : Reads P t c w) (f : α → β) (hc : ∀ a, c' (f a) = c a) (hw : ∀ a, w a → w' (f a)) : Reads P t c' w' := ⟨fun hx => by
  obtain ⟨a, ha, hv⟩ := h.read hx
  exact ⟨f a, hw a ha, by rw [hc]; exact hv⟩⟩

theorem cells?_get {w : World} {base : Nat} {a : Addr} {n : Nat} {cs : List Value} (h : w.cells? base a n = some cs) : cs.length = n ∧ ∀ j v, cs[j]? = some v → w.cell? (a.add j) = some v := by
  unfold World.cells? at h
  split at h
  · have hl := mapM_some_length h
    have := mapM_some_get h
    refine ⟨by simpa using hl, fun j v hv => ?_⟩
    obtain ⟨i, hi, hi2⟩ := this j v hv
    have hj : j < n := by
      have := (List.getElem?_eq_some_iff.1 hv).1; rw [hl] at this; simpa using this
    rw [List.getElem?_range hj] at hi; injection hi with hi; subst hi; exact hi2
  · cases h
where
  mapM_some_length {α β : Type} {f : α → Option β} : ∀ {l : List α} {r : List β}, l.mapM f = some r → r.length = l.length
    | [], r, h => by simp at h; subst h; rfl
    | a :: l, r, h => by
      simp only [List.mapM_cons] at h
      cases ha : f a with
      | none => simp [ha] at h
      | some b =>
        cases hl : l.mapM f with
        | none => simp [ha, hl] at h
        | some r' => simp [ha, hl] at h; subst h; simp [mapM_some_length hl]
  mapM_some_get {α β : Type} {f : α → Option β} : ∀ {l : List α} {r : List β}, l.mapM f = some r → ∀ (j : Nat) (b : β), r[j]? = some b → ∃ a, l[j]? = some a ∧ f a = some b
    | [], r, h, j, b, hb => by simp at h; subst h; simp at hb
    | a :: l, r, h, j, b, hb => by
      simp only [List.mapM_cons] at h
      cases ha : f a with
      | none => simp [ha] at h
      | some b' =>
        cases hl : l.mapM f with
        | none => simp [ha, hl] at h
        | some r' =>
          simp [ha, hl] at h; subst h
          cases j with
          | zero => simp at hb; subst hb; exact ⟨a, rfl, ha⟩
          | succ j => simp at hb; exact mapM_some_get hl j b hb

theorem cell?_spot {w : World} {a : Addr} {v : Value} (h : w.cell? a = some v) : a.spot = none := by
  unfold World.cell? at h
  split at h
  · split at h
    · cases h
    · rename_i hs; simpa using hs
  · cases h

theorem Reads.slice {α : Type} {c : α → List AV} {wf : α → Prop} (ht : P.underlying t = some (.slice e)) {k : Nat} (hk : P.cellsOf e = k) (hk0 : 0 < k) (he : Reads P e c wf) :
    Reads P t (fun l : List α => [.sl k (l.map c) .unk]) (fun l => l.length ≤ maxLen ∧ ∀ x ∈ l, wf x) := ⟨fun {H enc w fuel cs x} h => by
  rcases DataW.trod_slice ht h with ⟨rfl, _⟩ | ⟨a, len, cap, elems, rest, n, _, rfl, _, _, hl, hm, hlen, hel, hsp, hns⟩
  · exact ⟨[], ⟨by simp, by simp⟩, .one_ (.slnil (.inl rfl))⟩
  · rw [hk] at hel hsp
    have hread : ∀ i, i < len → ∃ cs' y, w.cells? 0 (a.add (i * k)) k = some cs' ∧ DataW.trod enc P w 0 (fun _ => true) true n e cs' = some y := fun i hi => by
      have h1 := hel i hi
      rw [List.getElem?_eq_getElem (by omega)] at h1
      cases hc : w.cells? 0 (a.add (i * k)) k with
      | none => rw [hc] at h1; cases h1
      | some cs' => rw [hc] at h1; exact ⟨cs', _, rfl, h1⟩
    have hall : ∀ i, i < len → ∃ z : α, wf z ∧ ∃ cs', w.cells? 0 (a.add (i * k)) k = some cs' ∧ VRs noNames (memOf w) (c z) cs' := fun i hi => by
      obtain ⟨cs', y, h1, h2⟩ := hread i hi
      obtain ⟨z, hz, hv⟩ := he.read h2
      exact ⟨z, hz, cs', h1, hv⟩
    have hspot : 0 < cap → a.spot = none := fun hc => by
      have key : ∀ cs', w.cells? 0 (a.add (0 * k)) k = some cs' → a.spot = none := fun cs' h => by
        obtain ⟨h1, h2⟩ := cells?_get h
        have h3 := h2 0 (cs'[0]'(by omega)) (List.getElem?_eq_getElem (by omega))
        have e1 : (a.add (0 * k)).add 0 = a := by simp [Addr.add]
        rw [e1] at h3
        exact cell?_spot h3
      by_cases h0 : 0 < len
      · obtain ⟨cs', y, h1, _⟩ := hread 0 h0
        exact key cs' h1
      · have hlen0 : len = 0 := by omega
        obtain ⟨h1, h2⟩ := hsp rfl
        have h3 := h2 0 (by omega)
        rw [hlen0] at h3 h1
        rw [List.getElem?_eq_getElem (by omega)] at h3
        cases hcc : w.cells? 0 (a.add ((0 + 0) * k)) k with
        | none => rw [hcc] at h3; cases h3
        | some cs' => exact key cs' (by simpa using hcc)
    obtain ⟨f, hf⟩ : ∃ f : Fin len → α, ∀ i : Fin len, wf (f i) ∧ ∃ cs', w.cells? 0 (a.add (i.val * k)) k = some cs' ∧ VRs noNames (memOf w) (c (f i)) cs' :=
      ⟨fun i => (hall i.val i.isLt).choose, fun i => (hall i.val i.isLt).choose_spec⟩
    refine ⟨List.ofFn f, ⟨by simp; omega, fun x hx => ?_⟩, .one_ ?_⟩
    · obtain ⟨i, rfl⟩ := List.mem_ofFn.1 hx
      exact (hf i).1
    · by_cases hc0 : cap = 0
      · have hlen0 : len = 0 := by omega
        subst hc0; subst hlen0
        simp only [List.ofFn_zero, List.map_nil]
        exact .slz a (.inl rfl)
      · have hs := hspot (by omega)
        have ha : a = ⟨a.block, a.off, none⟩ := by cases a; simp_all
        have hlm : ((List.ofFn f).map c).length = len := by simp
        have hget : ∀ (i : Nat) (e' : List AV), ((List.ofFn f).map c)[i]? = some e' → ∃ hi : i < len, e' = c (f ⟨i, hi⟩) := fun i e' he' => by
          have hi : i < len := by rw [← hlm]; exact (List.getElem?_eq_some_iff.1 he').1
          refine ⟨hi, ?_⟩
          simp [hi] at he'
          exact he'.symm
        have cell : ∀ (i : Nat) (hi : i < len) (j : Nat) (v : AV), (c (f ⟨i, hi⟩))[j]? = some v → ∃ x, memOf w ⟨a.block, a.off + i * k + j, none⟩ = some x ∧ VR noNames (memOf w) v x := fun i hi j v hv => by
          obtain ⟨_, cs', h1, h2⟩ := hf ⟨i, hi⟩
          obtain ⟨x, hx, hvx⟩ := h2.ex hv
          have h3 := (cells?_get h1).2 j x hx
          rw [ha, Addr.add_mid, Addr.add_mid] at h3
          exact ⟨x, h3, hvx⟩
        rw [ha]
        have := VR.sl (ρ := noNames) (M := memOf w) (sz := k) (es := (List.ofFn f).map c) (c := .unk) (b := a.block) (o := a.off) (cap := cap) (fun e' he' => ?_) (by rw [hlm]; exact hl) ⟨fun h => (by cases h), by simp⟩ (fun n h => by cases h)
          (fun i j e' v he' hv => ?_) (fun i j e' v x he' hv hx => ?_)
        · rw [hlm] at this; exact this
        · obtain ⟨i, hi, hi2⟩ := List.getElem_of_mem he'
          obtain ⟨hi', rfl⟩ := hget i e' (by rw [← hi2]; exact List.getElem?_eq_getElem hi)
          obtain ⟨_, cs', h1, h2⟩ := hf ⟨i, hi'⟩
          rw [h2.len]; exact (cells?_get h1).1
        · obtain ⟨hi, rfl⟩ := hget i e' he'
          obtain ⟨x, hx, _⟩ := cell i hi j v hv
          rw [hx]; rfl
        · obtain ⟨hi, rfl⟩ := hget i e' he'
          obtain ⟨y, hy, hvy⟩ := cell i hi j v hv
          rw [hy] at hx; injection hx with hx; subst hx; exact hvy⟩

/-- A struct's fields, one behind the other. -/
inductive FieldsRead (P : Program) : List Field → Nat → (α : Type) → (α → List AV) → (α → Prop) → Prop
  | nil (off : Nat) : FieldsRead P [] off Unit (fun _ => []) (fun _ => True)
  | cons {f : Field} {fs : List Field} {off k : Nat} {α β : Type} {c : α → List AV} {w : α → Prop} {c' : β → List AV} {w' : β → Prop} (ho : f.offset = off) (hk : P.cellsOf f.type = k) (h : Reads P f.type c w) (hs : FieldsRead P fs (off + k) β c' w') :
      FieldsRead P (f :: fs) off (α × β) (fun x => c x.1 ++ c' x.2) (fun x => w x.1 ∧ w' x.2)

theorem FieldsRead.read {H : Type} {enc : TypeId × Value → H} {w : World} {n : Nat} {cs : List Value} {fs : List Field} {off : Nat} {α : Type} {c : α → List AV} {wf : α → Prop} (h : FieldsRead P fs off α c wf)
    (hx : ∀ f ∈ fs, ∃ y, DataW.trod enc P w 0 (fun _ => true) true n f.type ((cs.drop f.offset).take (P.cellsOf f.type)) = some y) (hl : cs.length = off + (fs.map fun f => P.cellsOf f.type).sum) : ∃ a : α, wf a ∧ VRs noNames (memOf w) (c a) (cs.drop off) := by
  induction h with
  | nil off => exact ⟨(), trivial, by rw [List.drop_eq_nil_of_le (by simp at hl; omega)]; exact .nil⟩
  | @cons f fs off k α β c w1 c' w2 ho hk h hs ih =>
    obtain ⟨y, hy⟩ := hx f (by simp)
    obtain ⟨a, ha, hv⟩ := h.read hy
    obtain ⟨b, hb, hv'⟩ := ih (fun g hg => hx g (by simp [hg])) (by simp [hk] at hl; omega)
    refine ⟨(a, b), ⟨ha, hb⟩, ?_⟩
    have := hv.append hv'
    rw [ho, hk] at this
    rw [← List.drop_drop, List.take_append_drop] at this
    exact this
theorem Reads.struct {fs : Array Field} {α : Type} {c : α → List AV} {wf : α → Prop} (ht : P.underlying t = some (.struct fs)) (h : FieldsRead P fs.toList 0 α c wf) (hk : P.cellsOf t = (fs.toList.map fun f => P.cellsOf f.type).sum) : Reads P t c wf := ⟨fun {H enc w fuel cs x} hx => by
  obtain ⟨xs, n, _, _, hlen, hxl, hf⟩ := DataW.trod_struct ht hx
  have := h.read (enc := enc) (w := w) (n := n) (cs := cs) (fun f hfm => by
    obtain ⟨i, hi, hfi⟩ := List.getElem_of_mem hfm
    have hi' : i < fs.size := by simpa using hi
    have := hf i f (by rw [← hfi]; simp [hi'])
    rw [List.getElem?_eq_getElem (by omega)] at this
    exact ⟨_, this⟩) (by omega)
  simpa using this⟩

/-- An array: its elements as a struct's fields. -/
theorem Reads.array {n k : Nat} {fs : List Field} {α : Type} {c : α → List AV} {wf : α → Prop} (ht : P.underlying t = some (.array n e)) (hk : P.cellsOf e = k) (hn : fs.length = n) (hf : ∀ i f, fs[i]? = some f → f.type = e ∧ f.offset = i * k) (h : FieldsRead P fs 0 α c wf) (hc : P.cellsOf t = n * k) : Reads P t c wf := ⟨fun {H enc w fuel cs x} hx => by
  obtain ⟨xs, m, _, _, hlen, hxl, hel⟩ := DataW.trod_array ht hx
  have hsum : ∀ (l : List Field), (∀ f ∈ l, P.cellsOf f.type = k) → (l.map fun f => P.cellsOf f.type).sum = l.length * k := by
    intro l
    induction l with
    | nil => simp
    | cons f l ih => intro h; simp [h f (by simp), ih fun g hg => h g (by simp [hg]), Nat.succ_mul, Nat.add_comm]
  have hall : ∀ f ∈ fs, P.cellsOf f.type = k := fun f hfm => by
    obtain ⟨i, hi, hfi⟩ := List.getElem_of_mem hfm
    rw [(hf i f (by rw [← hfi]; exact List.getElem?_eq_getElem hi)).1, hk]
  have := h.read (enc := enc) (w := w) (n := m) (cs := cs) (fun f hfm => by
    obtain ⟨i, hi, hfi⟩ := List.getElem_of_mem hfm
    obtain ⟨h1, h2⟩ := hf i f (by rw [← hfi]; exact List.getElem?_eq_getElem hi)
    have := hel i (by omega)
    rw [List.getElem?_eq_getElem (by omega)] at this
    rw [h1, h2, ← hk]
    exact ⟨_, this⟩) (by rw [hsum fs hall, hn, hlen, hc]; omega)
  simpa using this⟩

/-! ### Arguments -/
/-- What an argument of type t is read as. -/
structure ArgReads (P : Program) (t : TypeId) {α : Type} (av : α → AV) (wf : α → Prop) : Prop where
  mk ::
  read : ∀ {H : Type} {enc : TypeId × Value → H} {w : World} {base : Nat} {v : Value} {d : DataW H} {ps : List MemPlace}, Value.okWide P w .any base t v → DataW.Trod enc P w 0 (fun _ => true) true t v d ps → ∃ a : α, wf a ∧ VR noNames (memOf w) (av a) v
theorem Reads.arg_agg {α : Type} {c : α → List AV} {wf : α → Prop} {fs : Array Field} (ht : P.underlying t = some (.struct fs)) (h : Reads P t c wf) : ArgReads P t (fun a => .agg (c a)) wf := ⟨fun {H enc w base v d ps} ho hd => by
  obtain ⟨cs, rfl, _⟩ := okWide_struct ht ho
  obtain ⟨fuel, hf⟩ := hd
  obtain ⟨a, ha, hv⟩ := h.read hf
  exact ⟨a, ha, VR.agg_iff.2 ⟨cs.toList, by simp, by simpa [Value.cells] using hv⟩⟩⟩
theorem Reads.arg_array {n : Nat} {α : Type} {c : α → List AV} {wf : α → Prop} (ht : P.underlying t = some (.array n e)) (h : Reads P t c wf) : ArgReads P t (fun a => .agg (c a)) wf := ⟨fun {H enc w base v d ps} ho hd => by
  simp only [Value.okWide, ht] at ho
  obtain ⟨cs, rfl, _⟩ := ho
  obtain ⟨fuel, hf⟩ := hd
  obtain ⟨a, ha, hv⟩ := h.read hf
  exact ⟨a, ha, VR.agg_iff.2 ⟨cs.toList, by simp, by simpa [Value.cells] using hv⟩⟩⟩
theorem Reads.arg_slice {α : Type} {c : α → AV} {wf : α → Prop} (ht : P.underlying t = some (.slice e)) (h : Reads P t (fun a => [c a]) wf) : ArgReads P t c wf := ⟨fun {H enc w base v d ps} ho hd => by
  obtain ⟨a, len, cap, rfl⟩ := okWide_slice ht ho
  obtain ⟨fuel, hf⟩ := hd
  obtain ⟨a, ha, hv⟩ := h.read hf
  exact ⟨a, ha, by simpa [Value.cells] using hv.head⟩⟩
theorem Reads.arg_int {α : Type} {c : α → AV} {wf : α → Prop} {k : IntKind} (ht : P.underlying t = some (.int k)) (h : Reads P t (fun a => [c a]) wf) : ArgReads P t c wf := ⟨fun {H enc w base v d ps} ho hd => by
  obtain ⟨n, rfl⟩ := okWide_int ht ho
  obtain ⟨fuel, hf⟩ := hd
  obtain ⟨a, ha, hv⟩ := h.read hf
  exact ⟨a, ha, by simpa [Value.cells] using hv.head⟩⟩

/-- The contract of a law's call, at the machine. -/
theorem Pure.calls {f : FuncId} {avs : List AV} {v : AV} (h : Pure P f avs v) {W : World} {vs : List Value} (hv : VRs noNames (memOf W) avs vs) :
    Calls P f vs.toArray W fun e W' => (∃ ρ M x, e = .returned x ∧ VR ρ M v x) ∧ Below W.heap.size W W' := by
  have hr : Rel noNames (memOf W) (fun _ => none) W := ⟨fun a x h => h, fun n o h => (by cases h), fun n m p q h => (by cases h)⟩
  refine ((h (fun _ => none) .root).2 noNames (memOf W) W vs hr (fun _ _ => rfl) hv).mono ?_
  rintro e W' ⟨ae, σ', ρ', M', he, ⟨rfl, rfl⟩, _, hev⟩
  refine ⟨?_, hev.os, hev.tape, hev.output, hev.size, fun k hk => hev.keep k hk (fun ⟨n, p, hn, _⟩ => by cases hn)⟩
  cases he with
  | ret hx => exact ⟨_, _, _, rfl, hx⟩

/-- ARGS, all of them: below the heap's old size nothing has turned. -/
theorem trodAll_below {H : Type} {enc : TypeId × Value → H} (hl : laidOutB P = true) {W W' : World} (hb : Below W.heap.size W W') {sp : Nat → Bool} : ∀ {ts : List TypeId} {vs : List Value} {ds : List (DataW H)} {ps : List MemPlace},
    (∀ t ∈ ts, P.readableRec t = true ∧ t < P.types.size) → DataW.TrodAll enc P W 0 (fun _ => true) true ts vs ds ps → (∀ p ∈ ps, p.block < W.heap.size ∧ sp p.block = true) → DataW.TrodAll enc P W' 0 sp true ts vs ds ps
  | [], [], [], ps, _, h, _ => h
  | t :: ts, v :: vs, d :: ds, ps, hts, h, hps => by
    obtain ⟨p, q, h1, h2, rfl⟩ := h
    have ht := hts t (by simp)
    refine ⟨p, q, WideElems.Trod_stays hl ht.1 ht.2 h1 (fun x hx => hb.same (hps x (by simp [hx])).1) (fun x hx => (hps x (by simp [hx])).2), ?_, rfl⟩
    exact trodAll_below hl hb (fun t ht => hts t (by simp [ht])) h2 (fun x hx => hps x (by simp [hx]))
  | [], _ :: _, _, _, _, h, _ => h.elim
  | [], [], _ :: _, _, _, h, _ => h.elim
  | _ :: _, [], _, _, _, h, _ => h.elim
  | _ :: _, _ :: _, [], _, _, h, _ => h.elim

/-- A law's row: it returns true; each argument reads behind the call as before. -/
theorem post_of_law {H : Type} {enc : TypeId × Value → H} {f : Func} {s : ChangeSpec} {apart fresh handsOn again : Bool} {W W' : World} {args : Array Value} {ds gs : List (DataW H)} {before : List MemPlace} {tb : TypeId}
    (hl : laidOutB P = true) (hts : ∀ t ∈ f.params.toList, P.readableRec t = true ∧ t < P.types.size) (hvars : s.vars = []) (hres : f.resultTypes = #[tb]) (htb : P.underlying tb = some .bool)
    (hspec : s.fn H ds = { results := [.lit (.bool true)], args := ds })
    (hW : DataW.Whole enc P f.params.toList s.vars apart W args.toList ds gs before) (hb : Below W.heap.size W W') : s.post enc P f apart fresh handsOn again W args (.bool true) W' := by
  have hW0 := hW
  have hlt := hW.lt
  obtain ⟨p, q, hA, hV, rfl, hfz, hnd⟩ := hW
  rw [hvars] at hV
  obtain ⟨rfl, rfl⟩ := trodVars_none hV
  have hold : ∀ x ∈ p ++ [], x.block < W.heap.size := hlt
  have hs : s.fn H (ds ++ []) = { results := [.lit (.bool true)], args := ds } := by rw [List.append_nil]; exact hspec
  have hargs : ∀ sp : Nat → Bool, (∀ x ∈ p ++ [], sp x.block = true) → DataW.TrodAll enc P W' 0 sp true f.params.toList args.toList (s.fn H (ds ++ [])).args p := fun sp hsp => by
    rw [hs]; exact trodAll_below hl hb hts hA fun x hx => ⟨hold x (by simp [hx]), hsp x (by simp [hx])⟩
  have hr1 : ∀ (b : Nat) (sp : Nat → Bool) (hd : Bool), DataW.TrodAll enc P W' b sp hd f.resultTypes.toList ((Value.bool true).resultList f.resultTypes.size) (s.fn H (ds ++ [])).results [] := fun b sp hd => by
    rw [hres, hs]; exact trodAll_mk1 (shut_bool htb true)
  have hv0 : ∀ sp : Nat → Bool, DataW.TrodVars enc P W' sp s.vars (s.fn H (ds ++ [])).vars [] := fun sp => by rw [hvars, hs]; rfl
  refine ⟨ds, [], p ++ [], [], p, [], hW0, hr1 _ _ _, hargs _ (fun x hx => by simpa using hold x hx), hv0 _, World.keptBut_mono (fun x hx => ⟨hx, ?_⟩) (hb.frame _), fun _ => ?_⟩
  · exact Or.inr (by simpa using hx)
  · refine ⟨?_, _, _, ([] ++ p) ++ [], ⟨[] ++ p, [], trodAll_append (hargs _ (fun _ _ => rfl)) (hr1 _ _ _), hv0 _, rfl, ?_, ?_⟩, ?_⟩
    · exact ok_one hres rfl (okWide_bool_mk htb true)
    · intro b off hp
      have hx : MemPlace.cell b off ∈ p ++ [] := by simpa using hp
      rw [hb.frozen (hold _ hx)]
      exact hfz b off hx
    · intro ha
      have := hnd ha
      simpa using this
    · intro x hx _
      simpa using hx

/-- The whole of it, for a law of whatever arguments. -/
theorem lifted_of_pure {C : Checked} {H : Type} {enc : TypeId × Value → H} {os : Os} {f : FuncId} {fn : Func} {s : ChangeSpec} {conds : List PathCond} {apart fresh handsOn again : Bool} {tb : TypeId} {n : Nat}
    (own : ownKnob C.prog.godebug = none) (started : os.Started) (noInit : C.prog.inits.idxOf? f = none) (hfn : C.prog.funcs[f]? = some fn)
    (witness : ∃ (w : World) (tape : Tape) (i : Input), w.os = os ∧ (w.forCall tape i).Shaped C.prog ∧ i.vars = [] ∧ Input.okWide C.prog (w.forCall tape i) .any w.heap.size f i ∧
      s.pre6 enc C.prog fn conds apart (w.forCall tape i).memory i.args ∧ ({} : Assume).holds C.prog (lone (Frame.enter C.prog f i.args .normal) [] (w.forCall tape i)))
    (hl : laidOutB C.prog = true) (hts : ∀ t ∈ fn.params.toList, C.prog.readableRec t = true ∧ t < C.prog.types.size) (hvars : s.vars = []) (hres : fn.resultTypes = #[tb]) (htb : C.prog.underlying tb = some .bool)
    (hspec : ∀ ds : List (DataW H), ds.length = fn.params.toList.length → s.fn H ds = { results := [.lit (.bool true)], args := ds })
    (walk : ∀ (W : World) (base : Nat) (args : Array Value) (ds : List (DataW H)) (ps : List MemPlace), (∀ (j : Nat) t v, fn.params[j]? = some t → args[j]? = some v → Value.okWide C.prog W .any base t v) →
      DataW.TrodAll enc C.prog W 0 (fun _ => true) true fn.params.toList args.toList ds ps → ∃ avs, VRs noNames (memOf W) avs args.toList ∧ Pure C.prog f avs (.bool true)) :
    ReturnsInHanded {} C os f .any (s.pre6 enc C.prog fn conds apart) (s.post enc C.prog fn apart fresh handsOn again) := by
  refine returnsInHanded_of_change own started noInit hfn witness ?_
  intro W base args ds gs before hval hW hcnd _
  have hlen : ds.length = fn.params.toList.length := by
    obtain ⟨p, q, hA, _⟩ := hW
    exact len hA
  obtain ⟨p, q, hA, hV, rfl, hfz, hnd⟩ := id hW
  obtain ⟨avs, hv, hp⟩ := walk W base args ds p hval hA
  have := hp.calls hv
  rw [Array.toArray_toList] at this
  refine this.mono ?_
  rintro e W' ⟨⟨ρ, M, x, rfl, hx⟩, hb⟩
  cases hx
  exact ⟨_, rfl, post_of_law hl hts hvars hres htb (hspec ds hlen) hW hb⟩
where
  len {H : Type} {enc : TypeId × Value → H} {P : Program} {W : World} : ∀ {ts : List TypeId} {vs : List Value} {ds : List (DataW H)} {ps : List MemPlace}, DataW.TrodAll enc P W 0 (fun _ => true) true ts vs ds ps → ds.length = ts.length
    | [], [], [], _, _ => rfl
    | _ :: _, _ :: _, _ :: _, _, h => by obtain ⟨_, _, _, h2, _⟩ := h; simp [len h2]
    | [], _ :: _, _, _, h => h.elim
    | [], [], _ :: _, _, h => h.elim
    | _ :: _, [], _, _, h => h.elim
    | _ :: _, _ :: _, [], _, h => h.elim
end
end Go.Abs
