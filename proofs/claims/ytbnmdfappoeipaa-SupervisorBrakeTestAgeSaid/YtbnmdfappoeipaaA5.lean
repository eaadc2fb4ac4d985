/- Quiet operations, all together. -/
import Derived.Test.YtbnmdfappoeipaaA4
import Derived.Laws.StructEq
import Derived.ChangeKeysEq
set_option linter.unusedVariables false
set_option linter.unusedSimpArgs false
namespace Go.Abs

/-! ### Equality -/
mutual
def aeq (P : Program) : Nat → TypeId → AV → AV → Option Bool
  | 0, _, _, _ => none
  | d + 1, t, x, y => match P.underlying t with
    | some .bool => match x, y with
      | .bool a, .bool b => some (a == b)
      | _, _ => none
    | some (.int _) => match x, y with
      | .int k a, .int k' b => if k = k' then some (a == b) else none
      | _, _ => none
    | some .string => match x, y with
      | .str a, .str b => some (a == b)
      | _, _ => none
    | some (.pointer _) => match x, y with
      | .nilptr, .nilptr => some true
      | .nilptr, .ptr _ _ => some false
      | .nilptr, .cptr _ => some false
      | .ptr _ _, .nilptr => some false
      | .cptr _, .nilptr => some false
      | _, _ => none
    | some (.func _ _ _) => match x, y with
      | .nilfn, .nilfn => some true
      | .nilfn, .fn _ _ _ => some false
      | .fn _ _ _, .nilfn => some false
      | _, _ => none
    | some (.map _ _) => match x, y with
      | .nilmap, .nilmap => some true
      | .nilmap, .map _ => some false
      | .map _, .nilmap => some false
      | _, _ => none
    | some (.interface _) => match x, y with
      | .nilifc, .nilifc => some true
      | .nilifc, .ifc _ _ => some false
      | .ifc _ _, .nilifc => some false
      | _, _ => none
    | some (.struct fs) => match x, y with
      | .agg xs, .agg ys => if P.stoodInHeld t = false then aeqFields P d xs ys fs.toList else none
      | _, _ => none
    | some (.array n e) => match x, y with
      | .agg xs, .agg ys => match tySize P e with
        | some k => aeqElems P d e k xs ys (List.range n)
        | none => none
      | _, _ => none
    | _ => none
def aeqFields (P : Program) : Nat → List AV → List AV → List Field → Option Bool
  | _, _, _, [] => some true
  | d, xs, ys, f :: fs =>
    if f.name ≠ "_" then
      match apart P f.type xs f.offset, apart P f.type ys f.offset with
      | some a, some b => match aeq P d f.type a b, aeqFields P d xs ys fs with
        | some r, some r' => some (r && r')
        | _, _ => none
      | _, _ => none
    else aeqFields P d xs ys fs
def aeqElems (P : Program) : Nat → TypeId → Nat → List AV → List AV → List Nat → Option Bool
  | _, _, _, _, _, [] => some true
  | d, e, k, xs, ys, i :: is =>
    match apart P e xs (i * k), apart P e ys (i * k) with
    | some a, some b => match aeq P d e a b, aeqElems P d e k xs ys is with
      | some r, some r' => some (r && r')
      | _, _ => none
    | _, _ => none
end

section
variable {P : Program} {ρ : Names} {M : Mem} {w : World}
set_option maxHeartbeats 2000000 in
mutual
theorem aeq_sound : ∀ (d D : Nat) (t : TypeId) (x y : AV) (r : Bool) (x' y' : Value), d ≤ D → VR ρ M x x' → VR ρ M y y' → aeq P d t x y = some r → (Op.equalIn D t x' y').run P w = .ok r w
  | 0, _, _, _, _, _, _, _, _, _, _, h => by simp [aeq] at h
  | d + 1, D, t, x, y, r, x', y', hD, hx, hy, h => by
    obtain ⟨D, rfl⟩ : ∃ D', D = D' + 1 := ⟨D - 1, by omega⟩
    have hD' : d ≤ D := by omega
    unfold aeq at h
    split at h
    · rename_i hu
      split at h
      · injection h with h; subst h; cases hx; cases hy
        exact run_equalIn_bool w D t _ _ hu
      · cases h
    · rename_i kk hu
      split at h
      · split at h
        · injection h with h; subst h; cases hx; cases hy
          rename_i e; subst e
          exact run_equalIn_int w D t _ _ _ _ hu
        · cases h
      · cases h
    · rename_i hu
      split at h
      · injection h with h; subst h; cases hx; cases hy
        rw [run_equalIn_string w D t _ _ hu, beq_toListBytes]
      · cases h
    · rename_i el hu
      split at h <;> first | (cases h; done) | (injection h with h; subst h; cases hx; cases hy; simp [Op.equalIn, run_underlying hu])
    · rename_i a b c hu
      split at h <;> first | (cases h; done) | (injection h with h; subst h; cases hx; cases hy; simp [Op.equalIn, run_underlying hu])
    · rename_i a b hu
      split at h <;> first | (cases h; done) | (injection h with h; subst h; cases hx; cases hy; simp [Op.equalIn, run_underlying hu])
    · rename_i a hu
      split at h <;> first | (cases h; done) | (injection h with h; subst h; cases hx; cases hy; simp [Op.equalIn, run_underlying hu])
    · rename_i fs hu
      split at h
      · rename_i xs ys
        split at h
        · rename_i hs
          obtain ⟨xv, rfl, hxv⟩ := VR.agg_iff.1 hx
          obtain ⟨yv, rfl, hyv⟩ := VR.agg_iff.1 hy
          have hf : P.fieldsOf t = fs := by simp [Program.fieldsOf, hu]
          rw [run_equalIn_struct w D t _ _ (by rw [hf]; exact hu) hs, hf]
          exact aeqFields_sound d D xs ys fs.toList r xv yv hD' hxv hyv h
        · cases h
      · cases h
    · rename_i n e hu
      split at h
      · rename_i xs ys
        split at h
        · rename_i k hk
          obtain ⟨xv, rfl, hxv⟩ := VR.agg_iff.1 hx
          obtain ⟨yv, rfl, hyv⟩ := VR.agg_iff.1 hy
          have hk' : P.cellsOf e = k := by simpa [Program.cellsOf, tySize] using congrArg (Option.getD · 0) hk
          cases hi : P.info? e with
          | none => simp [tySize, hi] at hk
          | some i =>
            rw [run_equalIn_array w D _ _ hu hi, hk']
            exact aeqElems_sound d D e k xs ys (List.range n) r xv yv hD' hxv hyv h
        · cases h
      · cases h
    · cases h
theorem aeqFields_sound : ∀ (d D : Nat) (xs ys : List AV) (fs : List Field) (r : Bool) (xv yv : List Value), d ≤ D → VRs ρ M xs xv → VRs ρ M ys yv → aeqFields P d xs ys fs = some r →
    (Op.eqFields D xv.toArray yv.toArray fs).run P w = .ok r w
  | d, D, xs, ys, [], r, xv, yv, hD, hx, hy, h => by
    simp only [aeqFields, Option.some.injEq] at h; subst h; simp [Op.eqFields]
  | d, D, xs, ys, f :: fs, r, xv, yv, hD, hx, hy, h => by
    unfold aeqFields at h
    split at h
    · rename_i hn
      split at h
      · rename_i a b ha hb
        split at h
        · rename_i r1 r2 h1 h2
          injection h with h; subst h
          obtain ⟨av, hav, hva⟩ := apart_sound (w := w) hx ha
          obtain ⟨bv, hbv, hvb⟩ := apart_sound (w := w) hy hb
          have e1 := aeq_sound d D f.type a b r1 av bv hD hva hvb h1
          have e2 := aeqFields_sound d D xs ys fs r2 xv yv hD hx hy h2
          unfold Op.eqFields
          rw [if_pos hn]
          simp only [Sem.run_bind, hav, hbv, e1, Result.andThen_ok]
          cases r1
          · simp
          · simpa using e2
        · cases h
      · cases h
    · rename_i hn
      unfold Op.eqFields
      rw [if_neg hn]
      exact aeqFields_sound d D xs ys fs r xv yv hD hx hy h
theorem aeqElems_sound : ∀ (d D : Nat) (e : TypeId) (k : Nat) (xs ys : List AV) (is : List Nat) (r : Bool) (xv yv : List Value), d ≤ D → VRs ρ M xs xv → VRs ρ M ys yv → aeqElems P d e k xs ys is = some r →
    (Op.eqItems D e k xv.toArray yv.toArray is).run P w = .ok r w
  | d, D, e, k, xs, ys, [], r, xv, yv, hD, hx, hy, h => by
    simp only [aeqElems, Option.some.injEq] at h; subst h; simp [Op.eqItems]
  | d, D, e, k, xs, ys, i :: is, r, xv, yv, hD, hx, hy, h => by
    unfold aeqElems at h
    split at h
    · rename_i a b ha hb
      split at h
      · rename_i r1 r2 h1 h2
        injection h with h; subst h
        obtain ⟨av, hav, hva⟩ := apart_sound (w := w) hx ha
        obtain ⟨bv, hbv, hvb⟩ := apart_sound (w := w) hy hb
        have e1 := aeq_sound d D e a b r1 av bv hD hva hvb h1
        have e2 := aeqElems_sound d D e k xs ys is r2 xv yv hD hx hy h2
        unfold Op.eqItems
        simp only [Sem.run_bind, hav, hbv, e1, Result.andThen_ok]
        cases r1
        · simp
        · simpa using e2
      · cases h
    · cases h
end
end

end Go.Abs
