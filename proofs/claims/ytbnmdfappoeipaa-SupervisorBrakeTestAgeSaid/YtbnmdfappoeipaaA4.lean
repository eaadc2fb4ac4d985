/- Quiet operations: those that compute a value and leave memory as it is. -/
import Derived.Test.YtbnmdfappoeipaaA3
import Derived.Laws.Slices
import Derived.Laws.Unary
set_option linter.unusedVariables false
set_option linter.unusedSimpArgs false
namespace Go.Abs

section
variable (P : Program)

/-- A part of an aggregate. -/
def apart (t : TypeId) (cs : List AV) (off : Nat) : Option AV :=
  match tyAgg P t with
  | some true => match tySize P t with
    | some k => some (.agg ((cs.drop off).take k))
    | none => none
  | some false => cs[off]?
  | none => none

def afield (t : TypeId) (x : AV) (f : Nat) : Option AV :=
  match tyField P t f, x with
  | some (o, ft), .agg cs => apart P ft cs o
  | _, _ => none

def afieldAddr (s : TypeId) (x : AV) (f : Nat) : Option AV :=
  match tyField P s f with
  | some (o, ft) => match tySize P ft with
    | some (_ + 1) => match x with
      | .ptr m i => some (.ptr m (i + o))
      | .cptr cs => some (.cptr (cs.drop o))
      | _ => none
    | _ => none
  | none => none

def aindexAddr (t : TypeId) (x i : AV) : Option AV :=
  match i with
  | .int _ i => match x with
    | .sl sz es _ => match tyElem P t with
      | some e => if tySize P e = some sz ∧ 0 ≤ i then (es[i.toNat]?).map .cptr else none
      | none => none
    | .ptr m j => match tyArr P t with
      | some (n, e) => match tySize P e with
        | some k => if 0 ≤ i ∧ i < n then some (.ptr m (j + i.toNat * k)) else none
        | none => none
      | none => none
    | .cptr cs => match tyArr P t with
      | some (n, e) => match tySize P e with
        | some k => if 0 ≤ i ∧ i < n then some (.cptr (cs.drop (i.toNat * k))) else none
        | none => none
      | none => none
    | _ => none
  | _ => none

def aindex (t : TypeId) (x i : AV) : Option AV :=
  match i with
  | .int _ i => match x with
    | .agg cs => match tyArr P t with
      | some (n, e) => match tySize P e with
        | some k => if 0 ≤ i ∧ i < n then apart P e cs (i.toNat * k) else none
        | none => none
      | none => none
    | .str s => if tyStr P t = true ∧ 0 ≤ i then (s[i.toNat]?).map fun b => .int .u8 b.toNat else none
    | _ => none
  | _ => none

/-- The places of the parts of an aggregate: a struct's offsets and sizes; an array's elements' size. -/
def tyPlaces (t : TypeId) : Option (List (Nat × Nat) ⊕ Nat) :=
  match P.underlying t with
  | some (.struct fs) => (fs.toList.mapM (fun f => (P.info? f.type).map fun i => (f.offset, i.size))).map .inl
  | some (.array _ e) => (tySize P e).map .inr
  | _ => none
def placeOf : List (Nat × Nat) ⊕ Nat → Nat → Option (Nat × Nat)
  | .inl l => fun i => l[i]?
  | .inr k => fun i => some (i * k, k)
def afill (place : Nat → Option (Nat × Nat)) (cells : List AV) : List (Nat × AV) → Option (List AV)
  | [] => some cells
  | (i, v) :: rest => match place i, v.cells? with
    | some (off, size), some vs => if vs.length = size ∧ off + size ≤ cells.length then afill place (cells.take off ++ vs ++ cells.drop (off + size)) rest else none
    | _, _ => none

end

section
variable {P : Program}

theorem apart_sound {ρ : Names} {M : Mem} {w : World} {t : TypeId} {cs : List AV} {xs : List Value} {off : Nat} {v : AV} (hv : VRs ρ M cs xs) (h : apart P t cs off = some v) :
    ∃ y : Value, (part t xs.toArray off).run P w = .ok y w ∧ VR ρ M v y := by
  unfold apart at h
  split at h
  · rename_i hagg
    split at h
    · rename_i k hk
      injection h with h; subst h
      refine ⟨.agg ((xs.drop off).take k).toArray, ?_, VR.agg_iff.2 ⟨_, rfl, (hv.drop off).take k⟩⟩
      simp [part, tyAgg_run hagg, tySize_run hk]
    · cases h
  · rename_i hagg
    obtain ⟨y, hy, hvy⟩ := hv.ex h
    exact ⟨y, by simp [part, tyAgg_run hagg, hy], hvy⟩
  · cases h

theorem afield_sound {ρ : Names} {M : Mem} {w : World} {t : TypeId} {x v : AV} {y : Value} {f : Nat} (hv : VR ρ M x y) (h : afield P t x f = some v) :
    ∃ z : Value, (Instr.field t y f).run P w = .ok z w ∧ VR ρ M v z := by
  unfold afield at h
  split at h
  · rename_i o ft cs hf
    obtain ⟨fs, fd, hu, hfd, rfl, rfl⟩ := tyField_run hf
    obtain ⟨xs, rfl, hvs⟩ := VR.agg_iff.1 hv
    obtain ⟨z, hz, hvz⟩ := apart_sound (w := w) hvs h
    exact ⟨z, by simp [Instr.field, run_underlying hu, hfd, asAgg, hz], hvz⟩
  · cases h

theorem afieldAddr_sound {ρ : Names} {M : Mem} {w : World} {t : TypeId} {x v : AV} {y : Value} {f : Nat} (hv : VR ρ M x y) (h : afieldAddr P t x f = some v) :
    ∃ z : Value, (Instr.fieldAt t y f).run P w = .ok z w ∧ VR ρ M v z := by
  unfold afieldAddr at h
  split at h
  · rename_i o ft hf
    obtain ⟨fs, fd, hu, hfd, rfl, rfl⟩ := tyField_run hf
    split at h
    · rename_i k hk
      split at h
      · rename_i m i
        injection h with h; subst h
        cases hv with
        | ptr hp =>
          rename_i p
          refine ⟨.pointer (some ⟨p.b, p.o + (i + fd.offset), none⟩), ?_, .ptr hp⟩
          simp [Instr.fieldAt, run_underlying hu, hfd, Instr.sureAddr, fieldPlace, tySize_run hk, Addr.add_mid, Nat.add_assoc]
      · rename_i cs
        injection h with h; subst h
        cases hv with
        | cptr h1 h2 =>
          rename_i b o
          refine ⟨.pointer (some ⟨b, o + fd.offset, none⟩), ?_, .cptr (fun j v hj => ?_) (fun j v z hj hz => ?_)⟩
          · simp [Instr.fieldAt, run_underlying hu, hfd, Instr.sureAddr, fieldPlace, tySize_run hk, Addr.add_mid]
          · rw [List.getElem?_drop] at hj; have := h1 _ v hj; rwa [← Nat.add_assoc] at this
          · rw [List.getElem?_drop] at hj; exact h2 _ v z hj (by rwa [← Nat.add_assoc])
      · cases h
    · cases h
  · cases h

theorem aindexAddr_sound {ρ : Names} {M : Mem} {w : World} {t : TypeId} {x i v : AV} {y j : Value} (hv : VR ρ M x y) (hi : VR ρ M i j) (h : aindexAddr P t x i = some v) :
    ∃ z : Value, (Instr.indexAt t y j).run P w = .ok z w ∧ VR ρ M v z := by
  unfold aindexAddr at h
  split at h
  · rename_i k i
    cases hi
    split at h
    · rename_i sz es c
      split at h
      · rename_i e he
        split at h
        · rename_i hc
          obtain ⟨hsz, h0⟩ := hc
          cases hes : es[i.toNat]? with
          | none => simp [hes] at h
          | some el =>
            simp [hes] at h; subst h
            have hlt : i.toNat < es.length := (List.getElem?_eq_some_iff.1 hes).1
            cases hv with
            | slnil _ => simp at hlt
            | slz _ _ => simp at hlt
            | sl hsz' hcap hcc ht h1 h2 =>
              rename_i b o cap
              have hli : i < (es.length : Int) := by omega
              refine ⟨.pointer (some ⟨b, o + i.toNat * sz, none⟩), ?_, .cptr (fun j v hj => h1 _ _ _ _ hes hj) (fun j v z hj hz => h2 _ _ _ _ z hes hj hz)⟩
              simp [Instr.indexAt, run_underlying (tyElem_run he), asIntOf, h0, hli, tySize_run hsz, Addr.add_mid]
        · cases h
      · cases h
    · rename_i m j
      split at h
      · rename_i n e he
        split at h
        · rename_i k hk
          split at h
          · rename_i hc
            injection h with h; subst h
            cases hv with
            | ptr hp =>
              rename_i p
              refine ⟨.pointer (some ⟨p.b, p.o + (j + i.toNat * k), none⟩), ?_, .ptr hp⟩
              simp [Instr.indexAt, run_underlying (tyArr_run he), asIntOf, hc, Instr.sureAddr, tySize_run hk, Addr.add_mid, Nat.add_assoc]
          · cases h
        · cases h
      · cases h
    · rename_i cs
      split at h
      · rename_i n e he
        split at h
        · rename_i k hk
          split at h
          · rename_i hc
            injection h with h; subst h
            cases hv with
            | cptr h1 h2 =>
              rename_i b o
              refine ⟨.pointer (some ⟨b, o + i.toNat * k, none⟩), ?_, .cptr (fun j v hj => ?_) (fun j v z hj hz => ?_)⟩
              · simp [Instr.indexAt, run_underlying (tyArr_run he), asIntOf, hc, Instr.sureAddr, tySize_run hk, Addr.add_mid]
              · rw [List.getElem?_drop] at hj; have := h1 _ v hj; rwa [← Nat.add_assoc] at this
              · rw [List.getElem?_drop] at hj; exact h2 _ v z hj (by rwa [← Nat.add_assoc])
          · cases h
        · cases h
      · cases h
    · cases h
  · cases h

theorem aindex_sound {ρ : Names} {M : Mem} {w : World} {t : TypeId} {x i v : AV} {y j : Value} (hv : VR ρ M x y) (hi : VR ρ M i j) (h : aindex P t x i = some v) :
    ∃ z : Value, (Instr.index t y j).run P w = .ok z w ∧ VR ρ M v z := by
  unfold aindex at h
  split at h
  · rename_i k i
    cases hi
    split at h
    · rename_i cs
      split at h
      · rename_i n e he
        split at h
        · rename_i k hk
          split at h
          · rename_i hc
            obtain ⟨xs, rfl, hvs⟩ := VR.agg_iff.1 hv
            obtain ⟨z, hz, hvz⟩ := apart_sound (w := w) hvs h
            exact ⟨z, by simp [Instr.index, run_underlying (tyArr_run he), asIntOf, hc, tySize_run hk, hz], hvz⟩
          · cases h
        · cases h
      · cases h
    · rename_i s
      split at h
      · rename_i hc
        cases hb : s[i.toNat]? with
        | none => simp [hb] at h
        | some b =>
          simp [hb] at h; subst h
          cases hv
          exact ⟨.int .u8 b.toNat, by simp [Instr.index, run_underlying (tyStr_run hc.1), asIntOf, hc.2, hb], .int _ _⟩
      · cases h
    · cases h
  · cases h

theorem setIfInBounds_foldl (vs : List Value) (off : Nat) : ∀ (j : Nat) (cells : Array Value), off + j + vs.length ≤ cells.size →
    ((vs.zipIdx j).foldl (fun cs (c, j) => cs.setIfInBounds (off + j) c) cells).toList = cells.toList.take (off + j) ++ vs ++ cells.toList.drop (off + j + vs.length) := by
  induction vs with
  | nil => intro j cells _; simp
  | cons v vs ih =>
    intro j cells h
    simp only [List.zipIdx_cons, List.foldl_cons]
    have hl : off + (j + 1) + vs.length ≤ (cells.setIfInBounds (off + j) v).size := by simp at h ⊢; omega
    rw [ih (j + 1) _ hl]
    have e := list_seg_step cells.toList (off + j) v vs (by simp at h ⊢; omega)
    simp only [Array.toList_setIfInBounds]
    simpa [Nat.add_assoc] using e

theorem afill_sound {ρ : Names} {M : Mem} {place : Nat → Option (Nat × Nat)} : ∀ (ps : List (Nat × AV)) (qs : List (Nat × Value)) (cells out : List AV) (xs : List Value),
    ps.length = qs.length → (∀ (i : Nat) (p : Nat × AV) (q : Nat × Value), ps[i]? = some p → qs[i]? = some q → p.1 = q.1 ∧ VR ρ M p.2 q.2) → VRs ρ M cells xs → afill place cells ps = some out →
    ∃ ys : List Value, Instr.fill place xs.toArray qs = some ys.toArray ∧ VRs ρ M out ys
  | [], [], cells, out, xs, _, _, hv, h => by
    simp only [afill, Option.some.injEq] at h; subst h
    exact ⟨xs, rfl, hv⟩
  | (i, v) :: ps, (i', y) :: qs, cells, out, xs, hl, hp, hv, h => by
    obtain ⟨rfl, hvy⟩ := hp 0 _ _ rfl rfl
    simp only [afill] at h
    split at h
    · rename_i off size vs hpl hvs
      split at h
      · rename_i hc
        obtain ⟨hc1, hc2⟩ := hc
        have hvc := hvy.cells hvs
        have hvl := hvc.len
        have hxl := hv.len
        have hsz : y.cells.size = size := by simp at hvl; omega
        have hfold := setIfInBounds_foldl y.cells.toList off 0 xs.toArray (by simp; omega)
        obtain ⟨ys, hys, hvys⟩ := afill_sound ps qs (cells.take off ++ vs ++ cells.drop (off + size)) out (xs.take off ++ y.cells.toList ++ xs.drop (off + size)) (by simpa using hl)
          (fun i p q h1 h2 => hp (i + 1) p q (by simpa using h1) (by simpa using h2)) (((hv.take off).append hvc).append (hv.drop _)) h
        refine ⟨ys, ?_, hvys⟩
        have hcells : y.cells.zipIdx.foldl (fun cs (c, j) => cs.setIfInBounds (off + j) c) xs.toArray = (xs.take off ++ y.cells.toList ++ xs.drop (off + size)).toArray := by
          apply Array.ext'
          rw [← Array.foldl_toList]
          simp only [Nat.add_zero, List.toList_toArray, Array.length_toList, hsz] at hfold
          rw [Array.toList_zipIdx]
          exact hfold
        have hg1 : ¬ off + size > xs.length := by omega
        simp only [Instr.fill, hpl, hsz, List.size_toArray]
        simp only [ne_eq, not_true_eq_false, hg1, or_self, if_false, decide_false, Bool.or_self, Bool.false_eq_true]
        rw [hcells]
        simpa using hys
      · cases h
    · cases h
  | [], _ :: _, _, _, _, h, _, _, _ => by simp at h
  | _ :: _, [], _, _, _, h, _, _, _ => by simp at h

end
end Go.Abs
