/- Operations on abstract values, and that the machine's operations do the same. -/
import Derived.Test.YtbnmdfappoeipaaA2
set_option linter.unusedVariables false
set_option linter.unusedSimpArgs false
namespace Go.Abs

/-! ### Values -/
def ofCell : Value → AV
  | .int k n => .int k n
  | .bool b => .bool b
  | .string s => .str s
  | .pointer none => .nilptr
  | .slice none 0 0 => .sl 0 [] .nil
  | .map none => .nilmap
  | .nilFunc => .nilfn
  | .nilIface => .nilifc
  | _ => .any
def ofValue : Value → AV
  | .agg cs => .agg (cs.toList.map ofCell)
  | v => ofCell v
theorem VR.ofCell (ρ : Names) (M : Mem) (v : Value) : VR ρ M (ofCell v) v := by
  unfold Abs.ofCell
  split
  · exact .int _ _
  · exact .bool _
  · exact .str _
  · exact .nilptr
  · exact .slnil (.inr (.inr rfl))
  · exact .nilmap
  · exact .nilfn
  · exact .nilifc
  · exact .any _
theorem VRs.ofCells (ρ : Names) (M : Mem) (vs : List Value) : VRs ρ M (vs.map ofCell) vs :=
  ⟨by simp, fun i v x hv hx => by
    rw [List.getElem?_map, hx] at hv; simp at hv; subst hv; exact .ofCell ρ M x⟩
theorem VR.ofValue (ρ : Names) (M : Mem) (v : Value) : VR ρ M (ofValue v) v := by
  unfold Abs.ofValue
  split
  · rename_i cs
    exact VR.agg_iff.2 ⟨cs.toList, by simp, .ofCells ρ M _⟩
  · exact .ofCell ρ M v

/-- The cells of a value. -/
def AV.cells? : AV → Option (List AV)
  | .agg cs => some cs
  | .any => none
  | .tup _ => none
  | v => some [v]
theorem VR.cells {ρ : Names} {M : Mem} {v : AV} {x : Value} {cs : List AV} (h : VR ρ M v x) (hc : v.cells? = some cs) : VRs ρ M cs x.cells.toList := by
  cases h <;> simp only [AV.cells?, Option.some.injEq, reduceCtorEq] at hc
  case agg xs hl h => subst hc; exact ⟨by simpa [Value.cells] using hl, fun i v x hv hx => h i v x hv (by simpa [Value.cells] using hx)⟩
  all_goals (subst hc; refine VRs.cons ?_ VRs.nil)
  · exact .int _ _
  · exact .bool _
  · exact .anyb _
  · exact .str _
  · exact .nilptr
  · exact .ptr ‹_›
  · exact .cptr ‹_› ‹_›
  · exact .slnil ‹_›
  · exact .slz _ ‹_›
  · exact .sl ‹_› ‹_› ‹_› ‹_› ‹_› ‹_›
  · exact .map ‹_›
  · exact .nilmap
  · exact .fn ‹_› ‹_› ‹_› ‹_›
  · exact .nilfn
  · exact .ifc ‹_›
  · exact .nilifc

/-- One cell, as a store asks it. -/
def AV.one : AV → Bool
  | .agg _ => false
  | .tup _ => false
  | .any => false
  | _ => true
theorem VR.one {ρ : Names} {M : Mem} {v : AV} {x : Value} (h : VR ρ M v x) (h1 : v.one = true) : x.oneCell' = true := by
  cases h <;> simp_all [AV.one, Value.oneCell']
theorem VRs.one {ρ : Names} {M : Mem} {cs : List AV} {xs : List Value} (h : VRs ρ M cs xs) (h1 : cs.all AV.one = true) : ∀ x ∈ xs, x.oneCell' = true := by
  intro x hx
  obtain ⟨i, hi, rfl⟩ := List.getElem_of_mem hx
  have hi' : i < cs.length := by rw [h.len]; exact hi
  exact (h.get i cs[i] xs[i] (List.getElem?_eq_getElem hi') (List.getElem?_eq_getElem hi)).one (List.all_eq_true.1 h1 _ (List.getElem_mem hi'))

/-! ### Types -/
section
variable (P : Program)
def tySize (t : TypeId) : Option Nat := (P.info? t).map (·.size)
def tyBytes (t : TypeId) : Option Nat := (P.info? t).map (·.bytes)
def tyZero (t : TypeId) : Option (List AV) := (P.info? t).bind fun i => i.zero.map fun z => z.cells.toList.map ofCell
def tyAgg (t : TypeId) : Option Bool := (P.underlying t).map fun d => match d with | .struct _ | .array _ _ => true | _ => false
def tyField (t : TypeId) (f : Nat) : Option (Nat × TypeId) := match P.underlying t with
  | some (.struct fs) => fs[f]?.map fun d => (d.offset, d.type)
  | _ => none
def tyElem (t : TypeId) : Option TypeId := match P.underlying t with
  | some (.slice e) => some e
  | _ => none
def tyStr (t : TypeId) : Bool := match P.underlying t with
  | some .string => true
  | _ => false
def tyArr (t : TypeId) : Option (Nat × TypeId) := match P.underlying t with
  | some (.array n e) => some (n, e)
  | _ => none
end
section
variable {P : Program}
theorem tySize_run {t : TypeId} {k : Nat} (h : tySize P t = some k) (w : World) : (sizeOf t).run P w = .ok k w := by
  unfold tySize at h
  cases hi : P.info? t with
  | none => simp [hi] at h
  | some i => simp [hi] at h; simp [sizeOf, typeInfo, hi, h]
theorem tyAgg_run {t : TypeId} {b : Bool} (h : tyAgg P t = some b) (w : World) : (isAgg t).run P w = .ok b w := by
  unfold tyAgg at h
  cases hd : P.underlying t with
  | none => simp [hd] at h
  | some d =>
    simp [hd] at h
    unfold isAgg
    rw [Sem.run_bind, run_underlying hd w]
    cases d <;> simp_all
theorem tyZero_run {t : TypeId} {z : List AV} (h : tyZero P t = some z) (w : World) : ∃ v : Value, (zeroValue t).run P w = .ok v w ∧ v.cells.toList.map ofCell = z := by
  unfold tyZero at h
  cases hi : P.info? t with
  | none => simp [hi] at h
  | some i =>
    cases hz : i.zero with
    | none => simp [hi, hz] at h
    | some v => exact ⟨v, by simp [zeroValue, typeInfo, hi, hz], by simpa [hi, hz] using h⟩
theorem tyField_run {t : TypeId} {f o : Nat} {ft : TypeId} (h : tyField P t f = some (o, ft)) : ∃ fs fd, P.underlying t = some (.struct fs) ∧ fs[f]? = some fd ∧ fd.offset = o ∧ fd.type = ft := by
  unfold tyField at h
  split at h
  · rename_i fs hd
    cases hf : fs[f]? with
    | none => simp [hf] at h
    | some fd => simp [hf] at h; exact ⟨fs, fd, hd, hf, h.1, h.2⟩
  · cases h
theorem tyElem_run {t e : TypeId} (h : tyElem P t = some e) : P.underlying t = some (.slice e) := by
  unfold tyElem at h; split at h
  · rename_i hd; injection h with h; subst h; exact hd
  · cases h
theorem tyStr_run {t : TypeId} (h : tyStr P t = true) : P.underlying t = some .string := by
  unfold tyStr at h; split at h
  · rename_i hd; exact hd
  · cases h
theorem tyArr_run {t e : TypeId} {n : Nat} (h : tyArr P t = some (n, e)) : P.underlying t = some (.array n e) := by
  unfold tyArr at h; split at h
  · rename_i hd; injection h with h; injection h with h1 h2; subst h1; subst h2; exact hd
  · cases h
end

/-! ### Reading memory -/
/-- k cells from an address on. -/
def aread (σ : Store) (a : AV) (k : Nat) : Option (List AV) :=
  match a with
  | .ptr m i => match σ m with
    | some (.var cs) => if i + k ≤ cs.length then some ((cs.drop i).take k) else none
    | _ => none
  | .cptr cs => if k ≤ cs.length then some (cs.take k) else none
  | _ => none

theorem aread_sound {ρ : Names} {M : Mem} {σ : Store} {w : World} {a : AV} {x : Value} {k : Nat} {cs : List AV} (hr : Rel ρ M σ w) (hv : VR ρ M a x) (h : aread σ a k = some cs) :
    ∃ (b o : Nat) (xs : List Value), x = .pointer (some ⟨b, o, none⟩) ∧ w.rangeAt b o xs ∧ VRs ρ M cs xs ∧ cs.length = k := by
  unfold aread at h
  split at h
  · rename_i m i
    cases hv with
    | ptr hp =>
      rename_i p
      split at h
      · rename_i ds hs
        obtain ⟨q, hq, h0, ys, T, hh, hvs, hm⟩ := hr.lies m _ hs
        rw [hp] at hq; injection hq with hq; subst hq
        split at h
        · rename_i hle
          injection h with h; subst h
          refine ⟨p.b, p.o + i, (ys.drop i).take k, rfl, fun j v hj => ?_, (hvs.drop i).take k, by simp; omega⟩
          rw [List.getElem?_take] at hj
          split at hj
          · rw [List.getElem?_drop] at hj
            unfold World.cell?
            simp [hh, h0, hj]
          · cases hj
        · cases h
      · cases h
  · rename_i ds
    cases hv with
    | cptr h1 h2 =>
      rename_i b o
      split at h
      · rename_i hle
        injection h with h; subst h
        have hget : ∀ j, j < k → ∃ y, M ⟨b, o + j, none⟩ = some y := fun j hj =>
          Option.isSome_iff_exists.1 (h1 j _ (List.getElem?_eq_getElem (by omega)))
        refine ⟨b, o, (List.range k).map fun j => (M ⟨b, o + j, none⟩).getD undef, rfl, fun j v hj => ?_, ⟨by simp; omega, fun j v y hv hy => ?_⟩, by simp; omega⟩
        · simp only [List.getElem?_map, List.getElem?_range] at hj
          by_cases hjk : j < k
          · obtain ⟨y, hy⟩ := hget j hjk
            simp [List.getElem?_range hjk, hy] at hj
            subst hj
            exact hr.mem _ _ hy
          · rw [List.getElem?_eq_none (by simp; omega)] at hj; cases hj
        · simp only [List.getElem?_map] at hy
          by_cases hjk : j < k
          · obtain ⟨z, hz⟩ := hget j hjk
            simp [List.getElem?_range hjk, hz] at hy
            subst hy
            rw [List.getElem?_take, if_pos hjk] at hv
            exact h2 j v z hv hz
          · rw [List.getElem?_take, if_neg hjk] at hv; cases hv
      · cases h
  · cases h

/-- A variable of type t, read. -/
def aload (P : Program) (σ : Store) (t : TypeId) (a : AV) : Option AV :=
  match tyAgg P t with
  | some true => match tySize P t with
    | some k => (aread σ a k).map .agg
    | none => none
  | some false => match aread σ a 1 with
    | some [v] => some v
    | _ => none
  | none => none

theorem aload_sound {P : Program} {ρ : Names} {M : Mem} {σ : Store} {w : World} {t : TypeId} {a v : AV} {x : Value} (hr : Rel ρ M σ w) (hv : VR ρ M a x) (h : aload P σ t a = some v) :
    ∃ y : Value, (Instr.loadAt t x).run P w = .ok y w ∧ VR ρ M v y := by
  unfold aload at h
  split at h
  · rename_i hagg
    split at h
    · rename_i k hk
      cases hc : aread σ a k with
      | none => simp [hc] at h
      | some cs =>
        simp [hc] at h; subst h
        obtain ⟨b, o, xs, rfl, hrange, hvs, hlen⟩ := aread_sound hr hv hc
        refine ⟨.agg xs.toArray, ?_, VR.agg_iff.2 ⟨xs, rfl, hvs⟩⟩
        have hl := run_loadCells_list (P := P) w ⟨b, o, none⟩ xs (fun j v hv => by rw [Addr.add_mid]; exact hrange j v hv)
        rw [show xs.length = k from by rw [← hvs.len, hlen]] at hl
        simp [Instr.loadAt, Instr.sureAddr, loadVar, tyAgg_run hagg, tySize_run hk, hl]
    · cases h
  · rename_i hagg
    split at h
    · rename_i u hc
      injection h with h; subst h
      obtain ⟨b, o, xs, rfl, hrange, hvs, hlen⟩ := aread_sound hr hv hc
      obtain ⟨y, hy, hvy⟩ := hvs.ex (i := 0) rfl
      refine ⟨y, ?_, hvy⟩
      have hcell : w.cell? ⟨b, o, none⟩ = some y := hrange 0 y hy
      simp [Instr.loadAt, Instr.sureAddr, loadVar, tyAgg_run hagg, hcell]
    · cases h
  · cases h

/-- A variable is stored into. -/
def astore (P : Program) (σ : Store) (t : TypeId) (a x : AV) : Option Store :=
  match a, x.cells?, tySize P t with
  | .ptr m i, some vs, some k => match σ m with
    | some (.var cs) => if vs.length = k ∧ i + k ≤ cs.length ∧ vs.all AV.one = true then some (σ.up m (.var (cs.take i ++ vs ++ cs.drop (i + k)))) else none
    | _ => none
  | _, _, _ => none

theorem astore_sound {P : Program} {ρ : Names} {M : Mem} {σ σ' : Store} {w : World} {t : TypeId} {a v : AV} {x y : Value} {NS : Nm → Prop} (hr : Rel ρ M σ w) (ha : VR ρ M a x) (hv : VR ρ M v y)
    (h : astore P σ t a v = some σ') :
    ∃ w' : World, (Instr.storeAt t x y).run P w = .ok () w' ∧ Rel ρ M σ' w' ∧ Evo NS ρ M σ w ρ M σ' w' := by
  unfold astore at h
  split at h
  · rename_i m i vs k hvs hk
    cases ha with
    | ptr hp =>
      rename_i p
      split at h
      · rename_i cs hs
        split at h
        · rename_i hcond
          obtain ⟨hl, hle, hone⟩ := hcond
          injection h with h; subst h
          obtain ⟨q, hq, h0, ys, T, hh, hys, hm⟩ := hr.lies m _ hs
          rw [hp] at hq; injection hq with hq; subst hq
          have hvc := hv.cells hvs
          have hysl := hys.len
          have hvcl := hvc.len
          have hrun := run_storeCells_at P p.b (p.o + i) T y.cells.toList 0 ys.toArray w hh (by simp at hvcl ⊢; omega) (hvc.one hone)
          have hsz : y.cells.size = k := by simp at hvcl; omega
          have hnew : VRs ρ M (cs.take i ++ vs ++ cs.drop (i + k)) (ys.take i ++ y.cells.toList ++ ys.drop (i + k)) := ((hys.take i).append hvc).append (hys.drop (i + k))
          obtain ⟨h1, h2⟩ := hr.setRow_var (NS := NS) hs hp hh hnew
          refine ⟨_, ?_, h1, h2⟩
          simp only [h0, Nat.zero_add, Nat.add_zero] at hrun ⊢
          simp only [List.toList_toArray, Array.length_toList, hsz] at hrun
          simp [Instr.storeAt, Instr.sureAddr, storeVar, tySize_run hk, hsz, hrun]
        · cases h
      · cases h
  · cases h

end Go.Abs
