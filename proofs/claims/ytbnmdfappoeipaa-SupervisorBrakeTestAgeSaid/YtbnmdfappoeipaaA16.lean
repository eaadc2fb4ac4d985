/- Slices that grow, in a walk. -/
import Derived.Test.YtbnmdfappoeipaaA14
set_option linter.unusedVariables false
set_option linter.unusedSimpArgs false
namespace Go.Abs
variable {P : Program}
/-- A slice that grows: none: nothing yet; some m: the token m stands for the room behind it. -/
def gv (k : Nat) (c : Option Nm) (es : List (List AV)) : AV := match c with
  | none => .sl k [] .exact
  | some m => .sl k es (.tok m)
/-- The store with its token. -/
def gs (σ : Store) (c : Option Nm) : Store := match c with
  | none => σ
  | some m => σ.up m .tok
/-- .. without. -/
def gdel (σ : Store) (c : Option Nm) : Store := match c with
  | none => σ
  | some m => σ.del m
/-- What is known of such a slice: its token is the walk's own, and new to the store. -/
def gok (ns : Nm) (σ : Store) (c : Option Nm) (es : List (List AV)) : Prop := match c with
  | none => es = []
  | some m => m.under ns = true ∧ σ m = none
def GNil (c : Option Nm) (es : List (List AV)) : Prop := c = none → es = []
theorem gv_none {k : Nat} {es : List (List AV)} : gv k none es = .sl k [] .exact := rfl
theorem AVle.nilExact {k sz : Nat} : AVle (.sl sz [] .nil) (.sl k [] .exact) := fun ρ M x h => by
  cases h with
  | slnil h => exact .slnil (.inr (.inl rfl))
  | slz a h => exact .slz a (.inr rfl)
  | sl h1 h2 h3 h4 h5 h6 => exact absurd rfl h3.2
instance AVLe.nilExact {k sz : Nat} : AVLe (.sl sz [] .nil) (.sl k [] .exact) := ⟨.nilExact⟩
instance AVLe.gvUnk {k : Nat} {m : Nm} {es : List (List AV)} : AVLe (gv k (some m) es) (.sl k es .unk) := ⟨.unk⟩
theorem gv_some {k : Nat} {m : Nm} {es : List (List AV)} : gv k (some m) es = .sl k es (.tok m) := rfl
@[simp] theorem cells?_gv {k : Nat} {c : Option Nm} {es : List (List AV)} : AV.cells? (gv k c es) = some [gv k c es] := by cases c <;> rfl
@[simp] theorem one_gv {k : Nat} {c : Option Nm} {es : List (List AV)} : AV.one (gv k c es) = true := by cases c <;> rfl
theorem gs_none {σ : Store} : gs σ none = σ := rfl
theorem gs_some {σ : Store} {m : Nm} : gs σ (some m) = σ.up m .tok := rfl
theorem gs_get {σ : Store} {c : Option Nm} {x : Nm} (h : ¬ c = some x) : gs σ c x = σ x := by
  cases c with
  | none => rfl
  | some m => rw [gs_some, Store.up_get, if_neg (fun e => h (by rw [e]))]
theorem gs_tok {σ : Store} {c : Option Nm} {x : Nm} (h : c = some x) : gs σ c x = some .tok := by subst h; simp [gs]
theorem gdel_get {σ : Store} {c : Option Nm} {x : Nm} (h : ¬ c = some x) : gdel σ c x = σ x := by
  cases c with
  | none => rfl
  | some m => simp only [gdel, Store.del]; rw [if_neg (fun e => h (by rw [e]))]
theorem gdel_tok {σ : Store} {c : Option Nm} {x : Nm} (h : c = some x) : gdel σ c x = none := by subst h; simp [gdel, Store.del]
section
variable {ns : Nm} {σ : Store} {c : Option Nm} {es : List (List AV)}
theorem gok.ne (h : gok ns σ c es) {x : Nm} (hx : ¬ σ x = none) : ¬ c = some x := by
  rintro rfl; exact hx h.2
theorem gok.ne_out (h : gok ns σ c es) {x : Nm} (hx : x.under ns = false) : ¬ c = some x := by
  rintro rfl; rw [h.1] at hx; cases hx
theorem gok.nil (h : gok ns σ c es) : c = none → es = [] := by rintro rfl; exact h
theorem gok.le (h : gok ns σ c es) {k : Nat} : AVle (gv k c es) (.sl k es .unk) := by
  cases c with
  | none => cases h; exact .unk
  | some m => exact .unk
theorem gok.len (h : gok ns σ c es) {k : Nat} {ts : Array TypeId} : abuiltin P .len ts [gv k c es] = abuiltin P .len ts [.sl k es .unk] := by
  cases c with
  | none => cases h; rfl
  | some m => rfl
@[simp] theorem abuiltin_len_gv {k : Nat} {ts : Array TypeId} (h : GNil c es) : abuiltin P .len ts [gv k c es] = if (tyElem P (ts.getD 0 0)).isSome = true ∧ 0 < ts.size then some (.int .i64 es.length) else none := by
  cases c with
  | none => rw [h rfl]; rfl
  | some m => rfl
/-- Round's names are new: so none is the token. -/
theorem gs_new {r : Nm} (h : ∀ n, n.under r = true → gs σ c n = none) : ∀ n, n.under r = true → ¬ c = some n := by
  rintro n hn rfl; have := h n hn; rw [gs_tok rfl] at this; cases this
theorem gs_new' {r : Nm} (h : ∀ n, n.under r = true → gs σ c n = none) : ∀ n, n.under r = true → σ n = none := fun n hn => by
  have := h n hn; rwa [gs_get (gs_new h n hn)] at this
end
/-- The token is in the store. -/
def TokAt (σ : Store) (c : Option Nm) : Prop := ∀ m, c = some m → σ m = some .tok
@[simp] theorem tokAt_none {σ : Store} : TokAt σ none := fun m h => by cases h
@[simp] theorem tokAt_some {σ : Store} {m : Nm} : TokAt σ (some m) = (σ m = some .tok) := propext ⟨fun h => h m rfl, fun h n e => by cases e; exact h⟩
@[simp] theorem tokAt_gs {σ : Store} {c : Option Nm} : TokAt (gs σ c) c := fun m h => gs_tok h
@[simp] theorem tokAt_up {σ : Store} {c : Option Nm} {x : Nm} {o : AObj} (h : ¬ c = some x) : TokAt (σ.up x o) c = TokAt σ c := propext
  ⟨fun g m e => by have := g m e; rwa [Store.up_get, if_neg (fun e' => h (by rw [e, e']))] at this, fun g m e => by rw [Store.up_get, if_neg (fun e' => h (by rw [e, e']))]; exact g m e⟩
theorem gok.gnil {ns : Nm} {σ : Store} {c : Option Nm} {es : List (List AV)} (h : gok ns σ c es) : GNil c es := by rintro rfl; exact h
attribute [simp] gs_get gdel_get

def aappend0 (P : Program) (n : Nm) (σ : Store) (ts : Array TypeId) (s x : AV) : Option (AV × Store) := aappend P n σ ts s x
/-- An append to it. -/
@[simp high] theorem aappend_gv {n : Nm} {σ : Store} {ts : Array TypeId} {k : Nat} {c : Option Nm} {es : List (List AV)} {sz' : Nat} {es' : List (List AV)} {c' : Cap} (hu : TokAt σ c) (hn : GNil c es) :
    aappend P n σ ts (gv k c es) (.sl sz' es' c') = match tyElem P (ts.getD 0 0), tyElem P (ts.getD 1 0) with
      | some e, some _ => match tySize P e, tyBytes P e, tyZero P e with
        | some k', some b, some z =>
          if k' = k ∧ ts.size = 2 ∧ 0 < k' ∧ 0 < b ∧ z.length = k' ∧ (es'.isEmpty = true ∨ sz' = k') ∧ (es.length + es'.length) * b ≤ 140737488355328 ∧ es'.all (fun e => e.all AV.one) = true then
            if es'.isEmpty = true then some (gv k c es, σ) else some (gv k (some n) (es ++ es'), (gdel σ c).up n .tok)
          else aappend0 P n σ ts (gv k c es) (.sl sz' es' c')
        | _, _, _ => aappend0 P n σ ts (gv k c es) (.sl sz' es' c')
      | _, _ => aappend0 P n σ ts (gv k c es) (.sl sz' es' c') := by
  cases he : tyElem P (ts.getD 0 0) with
  | none => rfl
  | some e =>
    cases he' : tyElem P (ts.getD 1 0) with
    | none => rfl
    | some e' =>
      simp only
      cases hk : tySize P e with
      | none => rfl
      | some k' =>
        cases hb : tyBytes P e with
        | none => rfl
        | some b =>
          cases hz : tyZero P e with
          | none => rfl
          | some z =>
            simp only
            split
            · rename_i h
              obtain ⟨rfl, h1, h2, h3, h4, h5, h6, h7⟩ := h
              cases c with
              | none =>
                obtain rfl := hn rfl
                unfold aappend
                simp only [gv_none, he, he', hk, hb, hz]
                rw [if_pos ⟨h1, h2, h3, h4, .inl rfl, h5, h6⟩]
                split
                · rfl
                · rfl
              | some m =>
                have hm := hu m rfl
                unfold aappend
                simp only [gv_some, he, he', hk, hb, hz]
                rw [if_pos ⟨h1, h2, h3, h4, .inr trivial, h5, h6⟩]
                split
                · rfl
                · simp only [hm]
                  rw [if_pos ⟨trivial, h7⟩]
                  rfl
            · rfl
/-- The token of a slice that is laid anew. -/
def gnew (es : List (List AV)) (n : Nm) : Option Nm := if es.isEmpty = true then none else some n
theorem gnew_ok {ns n : Nm} {σ : Store} {es : List (List AV)} (h1 : n.under ns = true) (h2 : σ n = none) : gok ns σ (gnew es n) es := by
  unfold gnew
  split
  · rename_i h; simpa [gok] using h
  · exact ⟨h1, h2⟩
theorem gs_gnew {σ : Store} {es : List (List AV)} {n : Nm} : gs σ (gnew es n) = if es.isEmpty = true then σ else σ.up n .tok := by unfold gnew; split <;> rfl
/-- An append to a slice without room. -/
theorem aappend_new {n : Nm} {σ : Store} {ts : Array TypeId} {k : Nat} {sz' : Nat} {es' : List (List AV)} {c' : Cap} :
    aappend P n σ ts (.sl k [] .exact) (.sl sz' es' c') = match tyElem P (ts.getD 0 0), tyElem P (ts.getD 1 0) with
      | some e, some _ => match tySize P e, tyBytes P e, tyZero P e with
        | some k', some b, some z =>
          if ts.size = 2 ∧ 0 < k' ∧ 0 < b ∧ z.length = k' ∧ k' = k ∧ (es'.isEmpty = true ∨ sz' = k') ∧ es'.length * b ≤ 140737488355328 then some (gv k (gnew es' n) es', gs σ (gnew es' n)) else aappend0 P n σ ts (.sl k [] .exact) (.sl sz' es' c')
        | _, _, _ => aappend0 P n σ ts (.sl k [] .exact) (.sl sz' es' c')
      | _, _ => aappend0 P n σ ts (.sl k [] .exact) (.sl sz' es' c') := by
  cases he : tyElem P (ts.getD 0 0) with
  | none => rfl
  | some e =>
    cases he' : tyElem P (ts.getD 1 0) with
    | none => rfl
    | some e' =>
      simp only
      cases hk : tySize P e with
      | none => rfl
      | some k' =>
        cases hb : tyBytes P e with
        | none => rfl
        | some b =>
          cases hz : tyZero P e with
          | none => rfl
          | some z =>
            simp only
            split
            · rename_i h
              obtain ⟨h1, h2, h3, h4, rfl, h5, h6⟩ := h
              unfold aappend
              simp only [he, he', hk, hb, hz]
              rw [if_pos ⟨h1, h2, h3, h4, .inl rfl, h5, by simpa using h6⟩]
              unfold gnew
              split <;> rename_i hh
              · have : es' = [] := by simpa using hh
                subst this; rfl
              · rfl
            · rfl
@[simp] theorem fold_new {k : Nat} {es : List (List AV)} {n : Nm} {σ : Store} [Decidable (es = [])] : (if es = [] then some (AV.sl k [] .exact, σ) else some (.sl k es (.tok n), σ.up n .tok)) = some (gv k (gnew es n) es, gs σ (gnew es n)) := by
  by_cases h : es = []
  · subst h; simp [gnew, gv, gs]
  · rw [if_neg h, show gnew es n = some n from if_neg (by simpa using h)]; rfl
/-- A loop in which a slice grows, over a store that turns. -/
theorem wpc_loopGB {pl : List (Nat × Plan)} {α : Type} {cd : Code} {Q : AExit → AS → Prop} (U : α → List (Nat × AV)) (B : α → Store) (C : α → Option Nm) (es : α → List (List AV)) (μ : α → Nat) (Good : α → Prop) (a0 : α) {tm : List AV} {st : Store} (ns0 : Nm) {ns : Nm} {c : Nat} {dfs : List ADf} {F : Fre}
    (hk : gok ns0 (B a0) (C a0) (es a0)) (hg : Good a0) (ht : AVsle tm (setL tm (U a0))) (hs : StWk st (gs (B a0) (C a0)))
    (h : ∀ a k, Good a → gok ns0 (B a) (C a) (es a) → (∀ x, x.under ((ns.sub c).sub k) = true → B a x = none) → (∀ x, x.under ((ns.sub c).sub k) = true ∨ ¬ B a x = none → ¬ C a = some x) →
      wpc P pl cd (loopG (fun a => ⟨setL tm (U a), gs (B a) (C a), ns, c, dfs, F⟩) μ (fun a => Good a ∧ gok ns0 (B a) (C a) (es a)) ns c k a Q) ⟨setL tm (U a), gs (B a) (C a), (ns.sub c).sub k, 0, dfs, F⟩) : wpc P pl (.loop cd) Q ⟨tm, st, ns, c, dfs, F⟩ := by
  refine wpc_loopN U (fun a => gs (B a) (C a)) μ (fun a => Good a ∧ gok ns0 (B a) (C a) (es a)) a0 ⟨hg, hk⟩ ht hs ?_
  rintro a k ⟨ha, hok⟩ hn
  refine h a k ha hok (gs_new' hn) fun x hx => ?_
  rcases hx with hx | hx
  · exact gs_new hn x hx
  · exact hok.ne hx
theorem gok_some {ns n : Nm} {σ : Store} {es : List (List AV)} (h1 : n.under ns = true) (h2 : σ n = none) : gok ns σ (some n) es := ⟨h1, h2⟩
/-- A loop in which a slice grows. C: its token; es: what it holds. -/
theorem wpc_loopGr {pl : List (Nat × Plan)} {α : Type} {cd : Code} {Q : AExit → AS → Prop} (U : α → List (Nat × AV)) (C : α → Option Nm) (es : α → List (List AV)) (μ : α → Nat) (Good : α → Prop) (a0 : α) {tm : List AV} {st : Store} {ns : Nm} {c : Nat} {dfs : List ADf} {F : Fre}
    (hc : C a0 = none) (he : es a0 = []) (hg : Good a0) (ht : AVsle tm (setL tm (U a0)))
    (h : ∀ a k, Good a → gok ns st (C a) (es a) → (∀ x, x.under ((ns.sub c).sub k) = true → st x = none) → (∀ x, x.under ((ns.sub c).sub k) = true ∨ ¬ st x = none → ¬ C a = some x) →
      wpc P pl cd (loopG (fun a => ⟨setL tm (U a), gs st (C a), ns, c, dfs, F⟩) μ (fun a => Good a ∧ gok ns st (C a) (es a)) ns c k a Q) ⟨setL tm (U a), gs st (C a), (ns.sub c).sub k, 0, dfs, F⟩) : wpc P pl (.loop cd) Q ⟨tm, st, ns, c, dfs, F⟩ := by
  refine wpc_loopN U (fun a => gs st (C a)) μ (fun a => Good a ∧ gok ns st (C a) (es a)) a0 ⟨hg, ?_⟩ ht ?_ ?_
  · rw [hc, he]; rfl
  · rw [hc]; exact .refl _
  · rintro a k ⟨ha, hok⟩ hn
    refine h a k ha hok (gs_new' hn) fun x hx => ?_
    rcases hx with hx | hx
    · exact gs_new hn x hx
    · exact hok.ne hx
/-- .. that had grown before. -/
theorem wpc_loopGr' {pl : List (Nat × Plan)} {α : Type} {cd : Code} {Q : AExit → AS → Prop} (U : α → List (Nat × AV)) (C : α → Option Nm) (es : α → List (List AV)) (μ : α → Nat) (Good : α → Prop) (a0 : α) {tm : List AV} {st : Store} {ns0 ns : Nm} {c : Nat} {dfs : List ADf} {F : Fre} {c0 : Option Nm}
    (hc : C a0 = c0) (he : gok ns0 st c0 (es a0)) (hg : Good a0) (ht : AVsle tm (setL tm (U a0)))
    (h : ∀ a k, Good a → gok ns0 st (C a) (es a) → (∀ x, x.under ((ns.sub c).sub k) = true → st x = none) → (∀ x, x.under ((ns.sub c).sub k) = true ∨ ¬ st x = none → ¬ C a = some x) →
      wpc P pl cd (loopG (fun a => ⟨setL tm (U a), gs st (C a), ns, c, dfs, F⟩) μ (fun a => Good a ∧ gok ns0 st (C a) (es a)) ns c k a Q) ⟨setL tm (U a), gs st (C a), (ns.sub c).sub k, 0, dfs, F⟩) : wpc P pl (.loop cd) Q ⟨tm, gs st c0, ns, c, dfs, F⟩ := by
  refine wpc_loopN U (fun a => gs st (C a)) μ (fun a => Good a ∧ gok ns0 st (C a) (es a)) a0 ⟨hg, ?_⟩ ht ?_ ?_
  · rw [hc]; exact he
  · rw [hc]; exact .refl _
  · rintro a k ⟨ha, hok⟩ hn
    refine h a k ha hok (gs_new' hn) fun x hx => ?_
    rcases hx with hx | hx
    · exact gs_new hn x hx
    · exact hok.ne hx
/-! What is told at a round's end, step by step. -/
theorem StWk.up {u v : Store} {n : Nm} {o o' : AObj} (h : StWk u v) (hu : u n = some o') (hw : VarWk o' o) : StWk u (v.up n o) := fun m p hp => by
  rw [Store.up_get] at hp
  split at hp
  · rename_i e; subst e; injection hp with hp; subst hp; exact ⟨o', hu, hw⟩
  · exact h m p hp
theorem StWk.up_same {u v : Store} {n : Nm} {o : AObj} (h : StWk u v) (hu : u n = some o) : StWk u (v.up n o) := h.up hu (.inl rfl)
theorem StWk.up_var {u v : Store} {n : Nm} {cs cs' : List AV} (h : StWk u v) (hu : u n = some (.var cs)) (hw : AVsle cs cs') : StWk u (v.up n (.var cs')) := h.up hu (.inr ⟨_, _, rfl, rfl, hw⟩)
theorem StWk.grow {u v : Store} {c : Option Nm} (h : StWk u v) (hc : ∀ m, c = some m → u m = some .tok) : StWk u (gs v c) := by
  cases c with
  | none => exact h
  | some m => exact h.up_same (hc m rfl)
theorem StWk.own_up {u v : Store} {n : Nm} {o : AObj} (h : StWk u v) (hn : v n = none) : StWk (u.up n o) v := fun m p hp => by
  obtain ⟨o', h1, h2⟩ := h m p hp
  exact ⟨o', by rw [Store.up_get, if_neg (fun e => by subst e; rw [hn] at hp; cases hp)]; exact h1, h2⟩
theorem StWk.own_del {u v : Store} {n : Nm} (h : StWk u v) (hn : v n = none) : StWk (u.del n) v := fun m p hp => by
  obtain ⟨o', h1, h2⟩ := h m p hp
  exact ⟨o', by unfold Store.del; rw [if_neg (fun e => by subst e; rw [hn] at hp; cases hp)]; exact h1, h2⟩
theorem StWk.own_gdel {u v : Store} {c : Option Nm} (h : StWk u v) (hn : ∀ m, c = some m → v m = none) : StWk (gdel u c) v := by
  cases c with
  | none => exact h
  | some m => exact h.own_del (hn m rfl)
theorem StWk.own_gs {u v : Store} {c : Option Nm} (h : StWk u v) (hn : ∀ m, c = some m → v m = none) : StWk (gs u c) v := by
  cases c with
  | none => exact h
  | some m => exact h.own_up (hn m rfl)
/-- The base: the walk's own names are new to it. -/
theorem StWk.base {ns : Nm} {σ u : Store} (hσ : ∀ n, n.under ns = true → σ n = none) (h : ∀ x, x.under ns = false → u x = σ x) : StWk u σ := fun x o hx => by
  cases hu : x.under ns with
  | true => rw [hσ x hu] at hx; cases hx
  | false => exact ⟨o, by rw [h x hu]; exact hx, .inl rfl⟩
theorem gs_other {σ : Store} {c : Option Nm} {m ns : Nm} (h : ∀ n, c = some n → n.under ns = true) (hm : m.under ns = false) : gs σ c m = σ m := gs_get fun e => by rw [h m e] at hm; cases hm
theorem gdel_other {σ : Store} {c : Option Nm} {m ns : Nm} (h : ∀ n, c = some n → n.under ns = true) (hm : m.under ns = false) : gdel σ c m = σ m := gdel_get fun e => by rw [h m e] at hm; cases hm
theorem gok.own {ns : Nm} {σ : Store} {c : Option Nm} {es : List (List AV)} (h : gok ns σ c es) : ∀ n, c = some n → n.under ns = true := by rintro n rfl; exact h.1
theorem gok.fresh {ns : Nm} {σ : Store} {c : Option Nm} {es : List (List AV)} (h : gok ns σ c es) : ∀ n, c = some n → σ n = none := by rintro n rfl; exact h.2
theorem restoreS_gs {ns : Nm} {σ τ : Store} {c : Option Nm} (h : ∀ n, c = some n → n.under ns = true) : restoreS ns [] σ (gs τ c) = restoreS ns [] σ τ := by
  cases c with
  | none => rfl
  | some m => exact restoreS_up_own (h m rfl)
theorem restoreS_del_own {ns n : Nm} {σ τ : Store} (h : n.under ns = true) : restoreS ns [] σ (τ.del n) = restoreS ns [] σ τ := by
  funext x
  simp only [restoreS, Store.del]
  by_cases e : x = n
  · subst e; simp [h]
  · simp [e]
theorem restoreS_gdel {ns : Nm} {σ τ : Store} {c : Option Nm} (h : ∀ n, c = some n → n.under ns = true) : restoreS ns [] σ (gdel τ c) = restoreS ns [] σ τ := by
  cases c with
  | none => rfl
  | some m => exact restoreS_del_own (h m rfl)
theorem endA_gen {v v' : AV} {τ σ σ' : Store} {ns : Nm} {R : AEnd → Store → Prop} (hl : AVle v v') (hw : StWeak ns σ τ σ') (hr : R (.ret v') σ') : endA (some v) τ [] σ ns R := ⟨rfl, v, rfl, v', σ', hl, hw, hr⟩
theorem endA_weak {v v' : AV} {τ σ : Store} {ns : Nm} (hl : AVle v v') (hw : StWeak ns σ τ σ) : endA (some v) τ [] σ ns (fun e σ' => e = .ret v' ∧ σ' = σ) := ⟨rfl, v, rfl, v', σ, hl, hw, rfl, rfl⟩
theorem gok.into {ns ns' : Nm} {σ : Store} {c : Option Nm} {es : List (List AV)} (h : gok ns' σ c es) (hn : ns'.under ns = true) : gok ns σ c es := by
  cases c with
  | none => exact h
  | some m => exact ⟨Nm.under_trans h.1 hn, h.2⟩
theorem StWk.both {u v : Store} {n : Nm} {o' o : AObj} (h : StWk u v) (hw : VarWk o' o) : StWk (u.up n o') (v.up n o) := fun m p hp => by
  rw [Store.up_get] at hp ⊢
  split at hp
  · rename_i e; injection hp with hp; subst hp; exact ⟨o', by rw [if_pos e], hw⟩
  · rename_i e; rw [if_neg e]; exact h m p hp
/-- A variable of a caller's has turned, and the walk's own. -/
theorem StWk.over {ns : Nm} {σ u : Store} {n : Nm} {o' o : AObj} (hσ : ∀ m, m.under ns = true → σ m = none) (h : ∀ m, m.under ns = false → ¬ m = n → u m = σ m) (hw : VarWk o' o) : StWk (u.up n o') (σ.up n o) := fun m p hp => by
  rw [Store.up_get] at hp ⊢
  split at hp
  · rename_i e; injection hp with hp; subst hp; exact ⟨o', by rw [if_pos e], hw⟩
  · rename_i e
    rw [if_neg e]
    cases hm : m.under ns with
    | true => rw [hσ m hm] at hp; cases hp
    | false => exact ⟨p, by rw [h m hm e]; exact hp, .inl rfl⟩
/-- A loop that turns one variable. -/
theorem wpc_loopV {pl : List (Nat × Plan)} {α : Type} {cd : Code} {Q : AExit → AS → Prop} (U : α → List (Nat × AV)) (n : Nm) (cs : α → List AV) (μ : α → Nat) (Good : α → Prop) (a0 : α) {tm : List AV} {st : Store} {ns : Nm} {c : Nat} {dfs : List ADf} {F : Fre}
    (hg : Good a0) (ht : AVsle tm (setL tm (U a0))) (h0 : st n = some (.var (cs a0)))
    (h : ∀ a k, Good a → (∀ x, x.under ((ns.sub c).sub k) = true → st x = none) → wpc P pl cd (loopG (fun a => ⟨setL tm (U a), st.up n (.var (cs a)), ns, c, dfs, F⟩) μ Good ns c k a Q) ⟨setL tm (U a), st.up n (.var (cs a)), (ns.sub c).sub k, 0, dfs, F⟩) : wpc P pl (.loop cd) Q ⟨tm, st, ns, c, dfs, F⟩ := by
  refine wpc_loopN U (fun a => st.up n (.var (cs a))) μ Good a0 hg ht (StWk.up_same (.refl _) h0) fun a k ha hn => h a k ha fun x hx => ?_
  have := hn x hx
  rw [Store.up_get] at this
  split at this
  · cases this
  · exact this
/-- A variable has turned in a round. -/
theorem StWk.turn {r n : Nm} {st u : Store} {o : AObj} (hfr : ∀ x, x.under r = true → st x = none) (hu : u n = some o) (h : ∀ m, m.under r = false → ¬ m = n → u m = st m) : StWk u (st.up n o) := fun m p hp => by
  rw [Store.up_get] at hp
  split at hp
  · rename_i e; subst e; injection hp with hp; subst hp; exact ⟨_, hu, .inl rfl⟩
  · rename_i e
    cases hm : m.under r with
    | true => rw [hfr m hm] at hp; cases hp
    | false => exact ⟨p, by rw [h m hm e]; exact hp, .inl rfl⟩
end Go.Abs
