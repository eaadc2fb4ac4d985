/- Maps whose keys are numbers, strings or truth values. -/
import Derived.Test.YtbnmdfappoeipaaA8
import Derived.MapKept
set_option linter.unusedVariables false
set_option linter.unusedSimpArgs false
namespace Go.Abs
open Go.MapKept
section
variable (P : Program)
def tyMap (t : TypeId) : Option (TypeId × TypeId) := match P.underlying t with
  | some (.map k e) => some (k, e)
  | _ => none
/-- Is a value a key of the type? -/
def keyFits (kt : TypeId) (k : AV) : Bool := match P.underlying kt, k with
  | some (.int j), .int j' _ => decide (j = j')
  | some .string, .str _ => true
  | some .bool, .bool _ => true
  | _, _ => false
def sameKey : AV → AV → Option Bool
  | .int j a, .int j' b => if j = j' then some (a == b) else none
  | .str a, .str b => some (a == b)
  | .bool a, .bool b => some (a == b)
  | _, _ => none
def afind (k : AV) : List (AV × AV) → Nat → Option (Option (Nat × AV))
  | [], _ => some none
  | e :: es, i => match sameKey k e.1 with
    | some true => some (some (i, e.2))
    | some false => afind k es (i + 1)
    | none => none
/-- The zero value of a type, as a value. -/
def tyZeroV (t : TypeId) : Option AV := (P.info? t).bind fun i => i.zero.map ofValue
def amapOf (σ : Store) (x : AV) : Option (List (AV × AV)) := match x with
  | .nilmap => some []
  | .map n => match σ n with
    | some (.map es) => some es
    | _ => none
  | _ => none
def alookup (σ : Store) (t : TypeId) (x k : AV) (ok : Bool) : Option AV :=
  match tyMap P t, amapOf σ x with
  | some (kt, et), some es => if keyFits P kt k = true then
      match afind k es 0 with
      | some (some (_, v)) => some (if ok = true then .tup [v, .bool true] else v)
      | some none => (tyZeroV P et).map fun v => if ok = true then .tup [v, .bool false] else v
      | none => none
    else none
  | _, _ => none
def amapUpdate (σ : Store) (t : TypeId) (m k v : AV) : Option Store :=
  match m, tyMap P t with
  | .map n, some (kt, _) => match σ n with
    | some (.map es) => if keyFits P kt k = true then
        match afind k es 0 with
        | some (some (i, _)) => some (σ.up n (.map (es.set i (k, v))))
        | some none => some (σ.up n (.map (es ++ [(k, v)])))
        | none => none
      else none
    | _ => none
  | _, _ => none
end
section
variable {P : Program} {ρ : Names} {M : Mem} {σ : Store} {w : World}
theorem tyMap_run {t kt et : TypeId} (h : tyMap P t = some (kt, et)) : P.underlying t = some (.map kt et) := by
  unfold tyMap at h; split at h
  · rename_i hd; injection h with h; injection h with h1 h2; subst h1; subst h2; exact hd
  · cases h
theorem keyFits_run {kt : TypeId} {k : AV} {x : Value} (h : keyFits P kt k = true) (hv : VR ρ M k x) : ∃ d, P.underlying kt = some d ∧ IsKey d x ∧ ∀ (k' : AV) (y : Value) (r : Bool), VR ρ M k' y → sameKey k k' = some r → Instr.sameNow d x y = some r := by
  unfold keyFits at h
  split at h
  · rename_i hd
    cases hv
    refine ⟨_, hd, by simpa [IsKey, eq_comm] using h, fun k' y r hy hs => ?_⟩
    cases hy <;> simp only [sameKey] at hs <;> first | (cases hs; done) | skip
    split at hs
    · rename_i e; injection hs with hs; subst hs; simp [Instr.sameNow, e]
    · cases hs
  · rename_i hd
    cases hv
    refine ⟨_, hd, trivial, fun k' y r hy hs => ?_⟩
    cases hy <;> simp only [sameKey] at hs <;> first | (cases hs; done) | skip
    injection hs with hs; subst hs; simp [Instr.sameNow]
  · rename_i hd
    cases hv
    refine ⟨_, hd, trivial, fun k' y r hy hs => ?_⟩
    cases hy <;> simp only [sameKey] at hs <;> first | (cases hs; done) | skip
    injection hs with hs; subst hs; simp [Instr.sameNow]
  · cases h
theorem afind_run {d : TypeDesc} {k : AV} {x : Value} (hs : ∀ (k' : AV) (y : Value) (r : Bool), VR ρ M k' y → sameKey k k' = some r → Instr.sameNow d x y = some r) : ∀ (es : List (AV × AV)) (xs : List MapEntry) (i : Nat) (r : Option (Nat × AV)), es.length = xs.length →
    (∀ (i : Nat) (e : AV × AV) (y : MapEntry), es[i]? = some e → xs[i]? = some y → VR ρ M e.1 y.key ∧ VR ρ M e.2 y.val) → afind k es i = some r →
    (r = none ∧ Instr.findNow d x xs i = some none) ∨ ∃ (j : Nat) (v : AV) (y : MapEntry), r = some (i + j, v) ∧ xs[j]? = some y ∧ es[j]?.map (·.2) = some v ∧ Instr.findNow d x xs i = some (some (i + j, y.val)) ∧ ∃ e, es[j]? = some e ∧ sameKey k e.1 = some true
  | [], [], i, r, _, _, h => by simp only [afind, Option.some.injEq] at h; subst h; exact .inl ⟨rfl, rfl⟩
  | e :: es, y :: xs, i, r, hl, hv, h => by
    obtain ⟨h1, h2⟩ := hv 0 e y rfl rfl
    unfold afind at h
    split at h
    · rename_i hk
      injection h with h; subst h
      have := hs _ _ _ h1 hk
      exact .inr ⟨0, e.2, y, rfl, rfl, rfl, by simp [Instr.findNow, this], e, rfl, hk⟩
    · rename_i hk
      have := hs _ _ _ h1 hk
      rcases afind_run hs es xs (i + 1) r (by simpa using hl) (fun i e y he hy => hv (i + 1) e y (by simpa using he) (by simpa using hy)) h with ⟨g1, g2⟩ | ⟨j, v, y', g1, g2, g3, g4, e', g5, g6⟩
      · exact .inl ⟨g1, by simp [Instr.findNow, this, g2]⟩
      · exact .inr ⟨j + 1, v, y', by rw [g1]; congr 2; omega, by simpa using g2, by simpa using g3, by simp [Instr.findNow, this, g4]; omega, e', by simpa using g5, g6⟩
    · cases h
  | [], _ :: _, _, _, hl, _, _ => by simp at hl
  | _ :: _, [], _, _, hl, _, _ => by simp at hl
theorem tyZeroV_run {t : TypeId} {v : AV} (h : tyZeroV P t = some v) (w : World) : ∃ x : Value, (zeroValue t).run P w = .ok x w ∧ VR ρ M v x := by
  unfold tyZeroV at h
  cases hi : P.info? t with
  | none => simp [hi] at h
  | some i =>
    cases hzz : i.zero with
    | none => simp [hi, hzz] at h
    | some x =>
      simp [hi, hzz] at h
      subst h
      exact ⟨x, by simp [zeroValue, typeInfo, hi, hzz], .ofValue ρ M x⟩

/-- What lies in a map. -/
theorem amapOf_run {x : AV} {y : Value} {es : List (AV × AV)} (hr : Rel ρ M σ w) (hv : VR ρ M x y) (h : amapOf σ x = some es) :
    ∃ xs : List MapEntry, (y = .map none ∧ xs = [] ∨ ∃ b clock, y = .map (some b) ∧ w.heap[b]? = some (.map xs.toArray clock)) ∧ es.length = xs.length ∧
      ∀ (i : Nat) (e : AV × AV) (y : MapEntry), es[i]? = some e → xs[i]? = some y → VR ρ M e.1 y.key ∧ VR ρ M e.2 y.val := by
  unfold amapOf at h
  split at h
  · injection h with h; subst h
    cases hv
    exact ⟨[], .inl ⟨rfl, rfl⟩, rfl, by simp⟩
  · rename_i n
    split at h
    · rename_i es' hn
      injection h with h; subst h
      cases hv with
      | map hp =>
        rename_i p
        obtain ⟨q, hq, xs, clock, hh, hl, hvs⟩ := hr.lies n _ hn
        rw [hp] at hq; injection hq with hq; subst hq
        exact ⟨xs.toList, .inr ⟨p.b, clock, rfl, by simpa using hh⟩, by simpa using hl, fun i e y he hy => hvs i e y he (by simpa using hy)⟩
    · cases h
  · cases h

theorem alookup_sound {t : TypeId} {x k v : AV} {y z : Value} {ok : Bool} (hr : Rel ρ M σ w) (hx : VR ρ M x y) (hk : VR ρ M k z) (h : alookup P σ t x k ok = some v) :
    ∃ u : Value, (Instr.lookup t y z ok).run P w = .ok u w ∧ VR ρ M v u := by
  unfold alookup at h
  split at h
  · rename_i kt et es hm hes
    split at h
    · rename_i hf
      obtain ⟨d, hd, hkey, hsame⟩ := keyFits_run hf hk
      obtain ⟨xs, hxs, hl, hvs⟩ := amapOf_run hr hx hes
      have hck := fun em n => run_checkKey (w := w) hd hkey em n
      have hrun : ∀ a, Instr.findNow d z xs 0 = some a → (Instr.lookup t y z ok).run P w = (do
          let (v, ok') ← match a with
            | some (_, v) => pure (v, true)
            | none => pure (← zeroValue et, false)
          pure (if ok then .tuple #[v, .bool ok'] else v) : Sem Value).run P w := fun a ha => by
        have hfk := run_findKey (w := w) hd ha
        unfold Instr.lookup
        simp only [Sem.run_bind, run_underlying (tyMap_run hm), Result.andThen_ok]
        rcases hxs with ⟨rfl, rfl⟩ | ⟨b, clock, rfl, hb⟩
        · simp only [Sem.run_bind, Sem.run_pure, Result.andThen_ok, hck]
          rw [hfk]; rfl
        · simp only [Sem.run_bind, Go.MapKept.run_getObj_map hb, Result.andThen_ok, Sem.run_pure, hck]
          rw [hfk]; rfl
      split at h
      · rename_i i v' hfd
        rcases afind_run hsame es xs 0 _ hl hvs hfd with ⟨h1, _⟩ | ⟨j, u, yv, h1, h2, h3, h4, _⟩
        · cases h1
        · injection h1 with h1; injection h1 with _ h1; subst h1
          rw [hrun _ h4]
          obtain ⟨e, he, hev⟩ : ∃ e, es[j]? = some e ∧ e.2 = v' := by
            cases he : es[j]? with
            | none => simp [he] at h3
            | some e => simp [he] at h3; exact ⟨e, rfl, h3⟩
          have hv2 := (hvs j e yv he h2).2
          rw [hev] at hv2
          cases ok with
          | true => simp at h; subst h; exact ⟨.tuple #[yv.val, .bool true], by simp, VR.tup_iff.2 ⟨[yv.val, .bool true], rfl, .cons hv2 (.cons (.bool _) .nil)⟩⟩
          | false => simp at h; subst h; exact ⟨yv.val, by simp, hv2⟩
      · rename_i hfd
        rcases afind_run hsame es xs 0 _ hl hvs hfd with ⟨_, h2⟩ | ⟨j, u, yv, h1, _⟩
        · rw [hrun _ h2]
          cases hz : tyZeroV P et with
          | none => simp [hz] at h
          | some zv =>
            obtain ⟨zx, hzx, hzv⟩ := tyZeroV_run (ρ := ρ) (M := M) hz w
            cases ok with
            | true => simp [hz] at h; subst h; exact ⟨.tuple #[zx, .bool false], by simp [hzx], VR.tup_iff.2 ⟨[zx, .bool false], rfl, .cons hzv (.cons (.bool _) .nil)⟩⟩
            | false => simp [hz] at h; subst h; exact ⟨zx, by simp [hzx], hzv⟩
        · cases h1
      · cases h
    · cases h
  · cases h

theorem sameKey_bits {d : TypeDesc} {k k' : AV} {x y : Value} (h : sameKey k k' = some true) (h1 : VR ρ M k x) (h2 : VR ρ M k' y) (n : Nat) : Instr.sameBits (n + 1) y x = true := by
  unfold sameKey at h
  split at h
  · split at h
    · rename_i e; subst e; cases h1; cases h2; simp at h; simp [Instr.sameBits, h]
    · cases h
  · cases h1; cases h2; simp only [Option.some.injEq] at h; have := (bytes_beq _ _).1 h; subst this; exact (bytes_beq _ _).2 rfl
  · cases h1; cases h2; simp at h; simp [Instr.sameBits, h]
  · cases h

theorem amapUpdate_sound {NS : Nm → Prop} {σ' : Store} {t : TypeId} {m k v : AV} {x y z : Value} (hr : Rel ρ M σ w) (hm : VR ρ M m x) (hk : VR ρ M k y) (hv : VR ρ M v z) (h : amapUpdate P σ t m k v = some σ') :
    ∃ w' : World, (Instr.mapUpdate t x y z).run P w = .ok () w' ∧ Rel ρ M σ' w' ∧ Evo NS ρ M σ w ρ M σ' w' := by
  unfold amapUpdate at h
  split at h
  · rename_i n kt et hty
    split at h
    · rename_i es hn
      split at h
      · rename_i hf
        cases hm with
        | map hp =>
          rename_i p
          obtain ⟨q, hq, xs, clock, hh, hl, hvs⟩ := hr.lies n _ hn
          rw [hp] at hq; injection hq with hq; subst hq
          obtain ⟨d, hd, hkey, hsame⟩ := keyFits_run hf hk
          have hck := fun em j => run_checkKey (w := w) hd hkey em j
          have hown : Owned ρ σ p.b := ⟨n, p, by simp [hn], hp, rfl⟩
          -- the map is set anew
          have fin : ∀ (es' : List (AV × AV)) (xs' : Array MapEntry) (clock' : Nat), es'.length = xs'.size → (∀ (i : Nat) (e : AV × AV) (x : MapEntry), es'[i]? = some e → xs'[i]? = some x → VR ρ M e.1 x.key ∧ VR ρ M e.2 x.val) →
              Rel ρ M (σ.up n (.map es')) { w with heap := w.heap.setIfInBounds p.b (.map xs' clock') } ∧ Evo NS ρ M σ w ρ M (σ.up n (.map es')) { w with heap := w.heap.setIfInBounds p.b (.map xs' clock') } := by
            intro es' xs' clock' hl' hvs'
            obtain ⟨g1, g2⟩ := heap_set (o' := .map xs' clock') hh
            have hmem : ∀ a x, M a = some x → World.cell? { w with heap := w.heap.setIfInBounds p.b (.map xs' clock') } a = some x := fun a x hx => by
              have h0 := hr.mem a x hx
              have hne : a.block ≠ p.b := fun e => by unfold World.cell? at h0; rw [e, hh] at h0; simp at h0
              rw [← h0]; unfold World.cell?; rw [g2 _ hne]
            refine ⟨hr.put .refl hmem hp ⟨xs', clock', g1, hl', hvs'⟩ (fun m q hne hm' hq => ?_), ?_⟩
            · have : q.b ≠ p.b := fun e => hne (hr.inj m n q p hm' (by simp [hn]) hq hp e)
              exact ⟨this, g2 _ this, fun a _ ha => ha⟩
            · refine ⟨.refl, by simp, rfl, rfl, rfl, fun b _ hb => g2 b (fun e => hb (e ▸ hown)), fun b hb => ?_, fun a ha => .inl ha, fun m p hm hp => (by rw [hm] at hp; cases hp), fun m hm => ?_⟩
              · obtain ⟨m, q, hm', hq, rfl⟩ := hb
                by_cases e : m = n
                · subst e; rw [hp] at hq; injection hq with hq; subst hq; exact .inr hown
                · rw [Store.up_get, if_neg e] at hm'; exact .inr ⟨m, q, hm', hq, rfl⟩
              · by_cases e : m = n
                · subst e; exact .inl (by simp [hn])
                · rw [Store.up_get, if_neg e] at hm; exact .inl hm
          have hl2 : es.length = xs.toList.length := by simpa using hl
          have hvs2 : ∀ (i : Nat) (e : AV × AV) (y : MapEntry), es[i]? = some e → xs.toList[i]? = some y → VR ρ M e.1 y.key ∧ VR ρ M e.2 y.val := fun i e y he hy => hvs i e y he (by simpa using hy)
          split at h
          · rename_i i u hfd
            injection h with h; subst h
            rcases afind_run hsame es xs.toList 0 _ hl2 hvs2 hfd with ⟨h1, _⟩ | ⟨j, u', yv, h1, h2, h3, h4, e, he, hsk⟩
            · cases h1
            · injection h1 with h1; injection h1 with h1 _
              have hij : i = j := by omega
              subst hij
              have h2' : xs[i]? = some yv := by simpa using h2
              have hbits := sameKey_bits (d := d) hsk hk (hvs2 i e yv he h2).1 9999
              obtain ⟨g1, g2⟩ := fin (es.set i (k, v)) (xs.modify i fun e => { e with key := y, val := z }) clock (by simp [hl]) (fun i' e' x' he' hx' => by
                rw [List.getElem?_set] at he'
                rw [Array.getElem?_modify] at hx'
                by_cases e1 : i = i'
                · subst e1
                  rw [if_pos rfl] at he' hx'
                  split at he'
                  · injection he' with he'; subst he'
                    rw [h2'] at hx'; simp at hx'; subst hx'
                    exact ⟨hk, hv⟩
                  · cases he'
                · rw [if_neg e1] at he' hx'
                  exact hvs i' e' x' he' hx')
              refine ⟨_, ?_, g1, g2⟩
              have hfk := run_findKey (w := w) hd h4
              unfold Instr.mapUpdate
              simp only [Sem.run_bind, run_underlying (tyMap_run hty), Result.andThen_ok, Go.MapKept.run_getObj_map hh, hck, hfk, Nat.zero_add, h2', Option.map_some, Option.getD_some]
              simp only [Instr.keyThatStays, hbits, if_true, Sem.run_pure, Result.andThen_ok, run_setObj_map _ hh]
          · rename_i hfd
            injection h with h; subst h
            rcases afind_run hsame es xs.toList 0 _ hl2 hvs2 hfd with ⟨_, h2⟩ | ⟨j, u', yv, h1, _⟩
            · obtain ⟨g1, g2⟩ := fin (es ++ [(k, v)]) (xs.push { key := y, val := z, born := clock }) (clock + 1) (by simp [hl]) (fun i e x he hx => by
                rw [Array.getElem?_push] at hx
                by_cases e1 : i = xs.size
                · rw [if_pos e1] at hx
                  rw [List.getElem?_append_right (by omega), hl, e1] at he
                  simp at he hx; subst he; subst hx
                  exact ⟨hk, hv⟩
                · rw [if_neg e1] at hx
                  have : i < xs.size := (Array.getElem?_eq_some_iff.1 hx).1
                  rw [List.getElem?_append_left (by omega)] at he
                  exact hvs i e x he hx)
              refine ⟨_, ?_, g1, g2⟩
              have hfk := run_findKey (w := w) hd h2
              unfold Instr.mapUpdate
              simp only [Sem.run_bind, run_underlying (tyMap_run hty), Result.andThen_ok, Go.MapKept.run_getObj_map hh, hck, hfk, run_setObj_map _ hh]
            · cases h1
          · cases h
      · cases h
    · cases h
  · cases h
end
end Go.Abs
