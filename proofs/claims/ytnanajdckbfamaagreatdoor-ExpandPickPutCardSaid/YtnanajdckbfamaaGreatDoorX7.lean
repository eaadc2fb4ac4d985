/- Expansion: walks of the methods that append steps. -/
import Derived.Test.YtnanajdckbfamaaGreatDoorX6
set_option linter.unusedVariables false
set_option linter.unusedSimpArgs false
set_option maxRecDepth 100000
namespace Go.Abs
/-- A slice that grows, whatever it held before: none: without room; some m: the token m stands for the room behind it. -/
def ge (k : Nat) (c : Option Nm) (es : List (List AV)) : AV := match c with
  | none => .sl k es .exact
  | some m => .sl k es (.tok m)
@[simp] theorem cells?_ge {k : Nat} {c : Option Nm} {es : List (List AV)} : AV.cells? (ge k c es) = some [ge k c es] := by cases c <;> rfl
@[simp] theorem one_ge {k : Nat} {c : Option Nm} {es : List (List AV)} : AV.one (ge k c es) = true := by cases c <;> rfl
theorem AVle.ge {k : Nat} {c : Option Nm} {es : List (List AV)} : AVle (ge k c es) (.sl k es .unk) := by cases c <;> exact .unk
instance AVLe.ge {k : Nat} {c : Option Nm} {es : List (List AV)} : AVLe (Go.Abs.ge k c es) (.sl k es .unk) := ⟨.ge⟩
@[simp] theorem abuiltin_len_ge {P : Program} {c : Option Nm} {es : List (List AV)} {k : Nat} {ts : Array TypeId} : abuiltin P .len ts [ge k c es] = if (tyElem P (ts.getD 0 0)).isSome = true ∧ 0 < ts.size then some (.int .i64 es.length) else none := by
  cases c <;> rfl
@[simp high] theorem aappend_ge {P : Program} {n : Nm} {σ : Store} {ts : Array TypeId} {k : Nat} {c : Option Nm} {es : List (List AV)} {sz' : Nat} {es' : List (List AV)} {c' : Cap} (hu : TokAt σ c) :
    aappend P n σ ts (ge k c es) (.sl sz' es' c') = match tyElem P (ts.getD 0 0), tyElem P (ts.getD 1 0) with
      | some e, some _ => match tySize P e, tyBytes P e, tyZero P e with
        | some k', some b, some z =>
          if k' = k ∧ ts.size = 2 ∧ 0 < k' ∧ 0 < b ∧ z.length = k' ∧ (es'.isEmpty = true ∨ sz' = k') ∧ (es.length + es'.length) * b ≤ 140737488355328 ∧ es'.all (fun e => e.all AV.one) = true then
            if es'.isEmpty = true then some (ge k c es, σ) else some (ge k (some n) (es ++ es'), (gdel σ c).up n .tok)
          else aappend0 P n σ ts (ge k c es) (.sl sz' es' c')
        | _, _, _ => aappend0 P n σ ts (ge k c es) (.sl sz' es' c')
      | _, _ => aappend0 P n σ ts (ge k c es) (.sl sz' es' c') := by
  cases he : tyElem P (ts.getD 0 0) with
  | none => rfl
  | some e =>
    cases he' : tyElem P (ts.getD 1 0) with
    | none => rfl
    | some e' =>
      simp only
      cases hk : tySize P e with
      | none => rfl
      | some k' =>
        cases hb : tyBytes P e with
        | none => rfl
        | some b =>
          cases hz : tyZero P e with
          | none => rfl
          | some z =>
            simp only
            split
            · rename_i h
              obtain ⟨rfl, h1, h2, h3, h4, h5, h6, h7⟩ := h
              cases c with
              | none =>
                unfold aappend
                simp only [ge, he, he', hk, hb, hz]
                rw [if_pos ⟨h1, h2, h3, h4, .inr trivial, h5, h6⟩]
                split
                · rfl
                · rfl
              | some m =>
                have hm := hu m rfl
                unfold aappend
                simp only [ge, he, he', hk, hb, hz]
                rw [if_pos ⟨h1, h2, h3, h4, .inr trivial, h5, h6⟩]
                split
                · rfl
                · simp only [hm]
                  rw [if_pos ⟨trivial, h7⟩]
                  rfl
            · rfl
end Go.Abs
namespace Go.Proofs
open Go Go.Abs
attribute [local irreducible] wpc aSeq awAny endA guardK condK CallK callT aPlan onlyL takeL aeffK takeE loopG bodyA thenA inBlockA planK roundG assignG bodyI endI YieldK unrollG endP
/-- What is told of the token behind the steps. -/
structure TokC (n : Nm) (B : Store) (t : Option Nm) (l : List Sp) : Prop where
  fresh : ∀ m, t = some m → B m = none ∧ ¬ m = n
  nil : True
abbrev Out := Except Int (Ws × List Sp)
/-- The store of such a method: its struct at n, with the steps. -/
abbrev wst (B : Store) (n : Nm) (w : Ws) (c : Ce) (t : Option Nm) (l : List Sp) : Store := gs (B.up n (.var (wkC w c (ge 11 t (spcs l))))) t
def SR (out : Out) (c : Ce) (B : Store) (n ns : Nm) (t : Option Nm) : AEnd → Store → Prop := fun e σ' => match out with
  | .ok y => ∃ t', TokC n B t' y.2 ∧ (∀ m, t' = some m → t = some m ∨ m.under ns = true) ∧ e = .ret (.tup []) ∧ σ' = wst B n y.1 c t' y.2
  | .error k => e = .panic (errv k) ∧ σ' = B
def SC (f : FuncId) (args : List AV) (φ : Ws → Ce → List Sp → Out) (pre : Ws → Ce → Prop) (N : Nat := 10000) : Prop :=
  ∀ (w : Ws) (c : Ce) (l : List Sp) (t : Option Nm) (B : Store) (ns n : Nm), pre w c → B n = none → TokC n B t l → l.length ≤ N → ACalls Tryz.prog f (.ptr n 0 :: args) (wst B n w c t l) ns (SR (φ w c l) c B n ns t)
theorem SC.use {f : FuncId} {args : List AV} {φ : Ws → Ce → List Sp → Out} {pre : Ws → Ce → Prop} {N : Nat} (h : SC f args φ pre N) {w : Ws} {c : Ce} {l : List Sp} {t : Option Nm} {B : Store} {m n : Nm} {dst : Option Tmp} {K : AS → Prop} {Q : AExit → AS → Prop} {tm : List AV} {ns : Nm} {cc : Nat} {dfs : List ADf} {F : Fre}
    (hp : pre w c) (hB : B n = none) (ht : TokC n B t l) (hl : l.length ≤ N)
    (h1 : ∀ y t', φ w c l = .ok y → TokC n B t' y.2 → (∀ k, t' = some k → t = some k ∨ k.under m = true) → K (AS.put ⟨tm, wst B n y.1 c t' y.2, ns, cc, dfs, F⟩ dst (.tup []))) (h2 : ∀ k, φ w c l = .error k → Q (.panic (errv k)) (AS.bump ⟨tm, B, ns, cc, dfs, F⟩)) :
    CallK Tryz.prog f (.ptr n 0 :: args) m dst K Q ⟨tm, wst B n w c t l, ns, cc, dfs, F⟩ := by
  refine CallK.of (h w c l t B m n hp hB ht hl) ?_ ?_
  · intro v σ' hr
    unfold SR at hr
    split at hr
    · rename_i y he; obtain ⟨t', g1, g2, hv, rfl⟩ := hr; injection hv with hv; subst hv; exact h1 y t' he g1 g2
    · cases hr.1
  · intro v σ' hr
    unfold SR at hr
    split at hr
    · obtain ⟨t', _, _, hv, _⟩ := hr; cases hv
    · rename_i k he; obtain ⟨hv, rfl⟩ := hr; injection hv with hv; subst hv; exact h2 k he
section
variable {out : Out} {y : Ws × List Sp} {c : Ce} {B u σ : Store} {ns ns' n : Nm} {t t' : Option Nm} {k : Int}
theorem sc_ok (h : out = .ok y) (ht : TokC n B t' y.2) (hu : ns.under ns' = true) (hs : ∀ m, t' = some m → t = some m ∨ m.under ns = true) (hw : StWk u (wst B n y.1 c t' y.2)) : endA (some (.tup [])) u [] σ ns (SR out c B n ns' t) := by
  subst h; exact endA_intro (StWk.weak hw) ⟨t', ht, fun m hm => (hs m hm).imp id (fun h => Nm.under_trans h hu), rfl, rfl⟩
theorem sc_err (h : out = .error k) (hw : StWk u B) : endP (errv k) u [] σ ns (SR out c B n ns' t) := by
  subst h; exact endP_intro (StWk.weak hw) ⟨rfl, rfl⟩
end
theorem gs_swap {B : Store} {n x : Nm} {V o : AObj} {t : Option Nm} (h1 : ¬ x = n) (h2 : ¬ t = some x) : (gs (B.up n V) t).up x o = gs ((B.up x o).up n V) t := by
  cases t with
  | none => exact (Store.up_comm _ h1 _ _).symm
  | some m =>
    simp only [gs]
    rw [Store.up_comm _ (fun e => h2 (by rw [e])), Store.up_comm _ (fun e => h1 e.symm)]
theorem gs_both {u v : Store} {t : Option Nm} (h : StWk u v) : StWk (gs u t) (gs v t) := by
  cases t with
  | none => exact h
  | some m => exact StWk.both h (.inl rfl)
/-- What a walk knows of its own names. -/
structure Own (ns : Nm) (B : Store) (n : Nm) (t : Option Nm) : Prop where
  base : ∀ x, x.under ns = true → B x = none
  nn : ∀ x, x.under ns = true → ¬ n = x
  n2 : ∀ x, x.under ns = true → ¬ x = n
  tn : ∀ x, x.under ns = true → ¬ t = some x
theorem Own.of {ns : Nm} {B : Store} {n : Nm} {V : AObj} {t : Option Nm} (hσ : ∀ x, x.under ns = true → gs (B.up n V) t x = none) : Own ns B n t := by
  have tn : ∀ x, x.under ns = true → ¬ t = some x := fun x hx e => by have := hσ x hx; rw [gs_tok e] at this; cases this
  have up : ∀ x, x.under ns = true → (B.up n V) x = none := fun x hx => (gs_get (σ := B.up n V) (tn x hx)).symm.trans (hσ x hx)
  have n2 : ∀ x, x.under ns = true → ¬ x = n := fun x hx e => by have := up x hx; rw [e, Store.up_same] at this; cases this
  exact ⟨fun x hx => by have := up x hx; rwa [Store.up_get, if_neg (n2 x hx)] at this, fun x hx e => n2 x hx e.symm, n2, tn⟩
theorem TokC.ne {n : Nm} {B : Store} {t : Option Nm} {l : List Sp} (h : TokC n B t l) : ¬ t = some n := fun e => (h.fresh n e).2 rfl
theorem TokC.up {n x : Nm} {B : Store} {t : Option Nm} {l : List Sp} {o : AObj} (h : TokC n B t l) (hx : ¬ t = some x) : TokC n (B.up x o) t l :=
  ⟨fun m hm => ⟨by rw [Store.up_get, if_neg (fun e => hx (by rw [hm, e]))]; exact (h.fresh m hm).1, (h.fresh m hm).2⟩, h.nil⟩
theorem TokC.down {n x : Nm} {B : Store} {t : Option Nm} {l : List Sp} {o : AObj} (h : TokC n (B.up x o) t l) : TokC n B t l ∧ ¬ t = some x := by
  have hx : ¬ t = some x := fun e => by have := (h.fresh x e).1; rw [Store.up_same] at this; cases this
  exact ⟨⟨fun m hm => ⟨by have := (h.fresh m hm).1; rwa [Store.up_get, if_neg (fun e => hx (by rw [hm, e]))] at this, (h.fresh m hm).2⟩, h.nil⟩, hx⟩
/-- A step, executed and appended. -/
def stepM (s : Sp) (w : Ws) (c : Ce) (l : List Sp) : Out := match doE s w c with
  | .ok w' => .ok (w', l ++ [s])
  | .error k => .error k
theorem stepM_ok {s : Sp} {w w' : Ws} {c : Ce} {l : List Sp} (h : doE s w c = .ok w') : stepM s w c l = .ok (w', l ++ [s]) := by simp [stepM, h]
theorem stepM_err {s : Sp} {w : Ws} {c : Ce} {l : List Sp} {k : Int} (h : doE s w c = .error k) : stepM s w c l = .error k := by simp [stepM, h]
theorem step_sc (s : Sp) : SC 108 [s.av] (stepM s) WOk := by
  intro w c l t B ns n hw hB ht hl
  refine acalls_val fun ns _ hns => ?_; refine acalls_of_wpc Tryz.mixed Tryz.dr108 Tryz.func108 rfl (Tryz.fit108 _ rfl) Tryz.en108 (fun hσ => ?_); simp [Tryz.ntmps108]
  have ow := Own.of hσ
  have hnt := ht.ne
  simp
  refine (do_do s).use (w := w) (c := c) (o := ge 11 t (spcs l)) hw (by simp [ow.nn, ow.n2, hnt, ow.tn]) (fun w' h => ?_) (fun k h => ?_)
  · have hlen : (l.length + 1) * 88 ≤ 140737488355328 := by omega
    simp (maxDischargeDepth := 6) [ow.nn, ow.n2, hnt, ow.tn, hlen]
    refine sc_ok (t' := some ((ns.sub 2).sub 7)) (y := (w', l ++ [s])) (stepM_ok h) ⟨fun m hm => ?_, trivial⟩ hns (fun m hm => .inr ?_) ?_
    · cases hm; exact ⟨ow.base _ (by simp [Nm.under]), ow.n2 _ (by simp [Nm.under])⟩
    · cases hm; simp [Nm.under]
    · refine StWk.grow ?_ (fun m hm => by cases hm; rw [Store.up_get, if_neg (ow.n2 _ (by simp [Nm.under])), Store.up_same])
      rw [spcs_snoc]
      refine StWk.both (StWk.own_up (StWk.own_gdel ?_ (fun m hm => (ht.fresh m hm).1)) (ow.base _ (by simp [Nm.under]))) (.inl rfl)
      exact StWk.own_up (StWk.own_up (StWk.own_gs (StWk.own_up (.refl _) hB) (fun m hm => (ht.fresh m hm).1)) (ow.base _ (by simp [Nm.under]))) hB
  · simp
    refine sc_err (stepM_err h) ?_
    exact StWk.own_up (StWk.own_gs (StWk.own_up (.refl _) hB) (fun m hm => (ht.fresh m hm).1)) (ow.base _ (by simp [Nm.under]))
def goStep (i : Int) (q : J3) : Sp := if i = 0 then ⟨1, i, 0, 0, 0, q, ⟨0, 0, 0⟩⟩ else ⟨1, i, 0, 0, 0, ⟨0, 0, 0⟩, q⟩
theorem sub_of {t t' : Option Nm} {m ns : Nm} (h : ∀ k, t' = some k → t = some k ∨ k.under m = true) (hm : m.under ns = true) : ∀ k, t' = some k → t = some k ∨ k.under ns = true := fun k hk => (h k hk).imp id (fun h => Nm.under_trans h hm)
theorem sub_trans {t t' t'' : Option Nm} {ns : Nm} (h : ∀ k, t' = some k → t = some k ∨ k.under ns = true) (h' : ∀ k, t'' = some k → t' = some k ∨ k.under ns = true) : ∀ k, t'' = some k → t = some k ∨ k.under ns = true := fun k hk => (h' k hk).elim (h k) .inr
theorem move_sc (i : Int) (hi : i = 0 ∨ i = 1) (q : J3) : SC 106 [.int .i64 i, q.av] (stepM (goStep i q)) WOk := by
  intro w c l t B ns n hw hB ht hl
  refine acalls_val fun ns _ hns => ?_; refine acalls_of_wpc Tryz.mixed Tryz.dr106 Tryz.func106 rfl (Tryz.fit106 _ rfl) Tryz.en106 (fun hσ => ?_); simp [Tryz.ntmps106]
  have ow := Own.of hσ
  have hnt := ht.ne
  rcases hi with rfl | rfl
  · simp [ow.nn, ow.n2, hnt, ow.tn]
    rw [gs_swap (x := (ns.sub 0).sub 0) (ow.n2 _ (by simp [Nm.under])) (ow.tn _ (by simp [Nm.under])), gs_swap (x := (ns.sub 1).sub 2) (ow.n2 _ (by simp [Nm.under])) (ow.tn _ (by simp [Nm.under]))]
    refine (step_sc (goStep 0 q)).use hw (by simp [ow.nn, hB]) ((ht.up (ow.tn _ (by simp [Nm.under]))).up (ow.tn _ (by simp [Nm.under]))) hl (fun y t' h ht' hs => ?_) (fun k h => ?_)
    · simp
      exact sc_ok h ht'.down.1.down.1 hns (sub_of hs (by simp [Nm.under])) (gs_both (StWk.both (StWk.own_up (StWk.own_up (.refl _) (ow.base _ (by simp [Nm.under]))) (ow.base _ (by simp [Nm.under]))) (.inl rfl)))
    · simp
      exact sc_err h (StWk.own_up (StWk.own_up (.refl _) (ow.base _ (by simp [Nm.under]))) (ow.base _ (by simp [Nm.under])))
  · simp [ow.nn, ow.n2, hnt, ow.tn]
    rw [gs_swap (x := (ns.sub 0).sub 0) (ow.n2 _ (by simp [Nm.under])) (ow.tn _ (by simp [Nm.under])), gs_swap (x := (ns.sub 1).sub 2) (ow.n2 _ (by simp [Nm.under])) (ow.tn _ (by simp [Nm.under]))]
    refine (step_sc (goStep 1 q)).use hw (by simp [ow.nn, hB]) ((ht.up (ow.tn _ (by simp [Nm.under]))).up (ow.tn _ (by simp [Nm.under]))) hl (fun y t' h ht' hs => ?_) (fun k h => ?_)
    · simp
      exact sc_ok h ht'.down.1.down.1 hns (sub_of hs (by simp [Nm.under])) (gs_both (StWk.both (StWk.own_up (StWk.own_up (.refl _) (ow.base _ (by simp [Nm.under]))) (ow.base _ (by simp [Nm.under]))) (.inl rfl)))
    · simp
      exact sc_err h (StWk.own_up (StWk.own_up (.refl _) (ow.base _ (by simp [Nm.under]))) (ow.base _ (by simp [Nm.under])))
/-- A statement, without its kids. -/
structure Sb where
  kind : Int
  arm : Int
  part : ByteArray
  place : ByteArray
  n : Int
  to0 : J3
  to1 : J3
  at' : Int
  deriving DecidableEq
abbrev Sb.cells (x : Sb) (kids : AV) : List AV := [.int .i64 x.kind, .int .i64 x.arm, .str x.part, .str x.place, .int .i64 x.n, .int .i64 x.to0.a, .int .i64 x.to0.b, .int .i64 x.to0.c, .int .i64 x.to1.a, .int .i64 x.to1.b, .int .i64 x.to1.c, kids, .int .i64 x.at']
def Sb.to (x : Sb) (i : Int) : J3 := if i = 0 then x.to0 else x.to1
@[simp] theorem Sb.to_0 (s : Sb) : s.to 0 = s.to0 := rfl
@[simp] theorem Sb.to_1 (s : Sb) : s.to 1 = s.to1 := rfl
def Ce.home (c : Ce) (i : Int) : J3 := if i = 0 then c.h0 else c.h1
@[simp] theorem Ce.home_0 (c : Ce) : c.home 0 = c.h0 := rfl
@[simp] theorem Ce.home_1 (c : Ce) : c.home 1 = c.h1 := rfl
theorem to_sc (x : Sb) (kids : AV) (hi : x.arm = 0 ∨ x.arm = 1) : SC 75 [.agg (x.cells kids)] (stepM (goStep x.arm (x.to x.arm))) WOk := by
  intro w c l t B ns n hw hB ht hl
  refine acalls_val fun ns _ hns => ?_; refine acalls_of_wpc Tryz.mixed Tryz.dr75 Tryz.func75 rfl (Tryz.fit75 _ rfl) Tryz.en75 (fun hσ => ?_); simp [Tryz.ntmps75]
  have ow := Own.of hσ
  have hnt := ht.ne
  rcases hi with hi | hi
  · rw [hi]
    simp [ow.nn, ow.n2, hnt, ow.tn, hi]
    rw [gs_swap (x := (ns.sub 0).sub 0) (ow.n2 _ (by simp [Nm.under])) (ow.tn _ (by simp [Nm.under]))]
    refine (move_sc 0 (.inl rfl) x.to0).use hw (by simp [ow.nn, hB]) (ht.up (ow.tn _ (by simp [Nm.under]))) hl (fun y t' h ht' hs => ?_) (fun k h => ?_)
    · simp
      exact sc_ok h ht'.down.1 hns (sub_of hs (by simp [Nm.under])) (gs_both (StWk.both (StWk.own_up (.refl _) (ow.base _ (by simp [Nm.under]))) (.inl rfl)))
    · simp
      exact sc_err h (StWk.own_up (.refl _) (ow.base _ (by simp [Nm.under])))
  · rw [hi]
    simp [ow.nn, ow.n2, hnt, ow.tn, hi]
    rw [gs_swap (x := (ns.sub 0).sub 0) (ow.n2 _ (by simp [Nm.under])) (ow.tn _ (by simp [Nm.under]))]
    refine (move_sc 1 (.inr rfl) x.to1).use hw (by simp [ow.nn, hB]) (ht.up (ow.tn _ (by simp [Nm.under]))) hl (fun y t' h ht' hs => ?_) (fun k h => ?_)
    · simp
      exact sc_ok h ht'.down.1 hns (sub_of hs (by simp [Nm.under])) (gs_both (StWk.both (StWk.own_up (.refl _) (ow.base _ (by simp [Nm.under]))) (.inl rfl)))
    · simp
      exact sc_err h (StWk.own_up (.refl _) (ow.base _ (by simp [Nm.under])))
theorem home_sc (x : Sb) (kids : AV) (hi : x.arm = 0 ∨ x.arm = 1) : SC 76 [.agg (x.cells kids)] (fun w c l => stepM (goStep x.arm (c.home x.arm)) w c l) WOk := by
  intro w c l t B ns n hw hB ht hl
  refine acalls_val fun ns _ hns => ?_; refine acalls_of_wpc Tryz.mixed Tryz.dr76 Tryz.func76 rfl (Tryz.fit76 _ rfl) Tryz.en76 (fun hσ => ?_); simp [Tryz.ntmps76]
  have ow := Own.of hσ
  have hnt := ht.ne
  rcases hi with hi | hi
  · rw [hi]
    simp [ow.nn, ow.n2, hnt, ow.tn, hi]
    rw [gs_swap (x := (ns.sub 0).sub 0) (ow.n2 _ (by simp [Nm.under])) (ow.tn _ (by simp [Nm.under]))]
    refine (move_sc 0 (.inl rfl) c.h0).use hw (by simp [ow.nn, hB]) (ht.up (ow.tn _ (by simp [Nm.under]))) hl (fun y t' h ht' hs => ?_) (fun k h => ?_)
    · simp
      exact sc_ok h ht'.down.1 hns (sub_of hs (by simp [Nm.under])) (gs_both (StWk.both (StWk.own_up (.refl _) (ow.base _ (by simp [Nm.under]))) (.inl rfl)))
    · simp
      exact sc_err h (StWk.own_up (.refl _) (ow.base _ (by simp [Nm.under])))
  · rw [hi]
    simp [ow.nn, ow.n2, hnt, ow.tn, hi]
    rw [gs_swap (x := (ns.sub 0).sub 0) (ow.n2 _ (by simp [Nm.under])) (ow.tn _ (by simp [Nm.under]))]
    refine (move_sc 1 (.inr rfl) c.h1).use hw (by simp [ow.nn, hB]) (ht.up (ow.tn _ (by simp [Nm.under]))) hl (fun y t' h ht' hs => ?_) (fun k h => ?_)
    · simp
      exact sc_ok h ht'.down.1 hns (sub_of hs (by simp [Nm.under])) (gs_both (StWk.both (StWk.own_up (.refl _) (ow.base _ (by simp [Nm.under]))) (.inl rfl)))
    · simp
      exact sc_err h (StWk.own_up (.refl _) (ow.base _ (by simp [Nm.under])))
theorem pause_sc (x : Sb) (kids : AV) : SC 79 [.agg (x.cells kids)] (stepM ⟨5, 0, 0, 0, x.n, ⟨0, 0, 0⟩, ⟨0, 0, 0⟩⟩) WOk := by
  intro w c l t B ns n hw hB ht hl
  refine acalls_val fun ns _ hns => ?_; refine acalls_of_wpc Tryz.mixed Tryz.dr79 Tryz.func79 rfl (Tryz.fit79 _ rfl) Tryz.en79 (fun hσ => ?_); simp [Tryz.ntmps79]
  have ow := Own.of hσ
  have hnt := ht.ne
  simp [ow.nn, ow.n2, hnt, ow.tn]
  rw [gs_swap (x := (ns.sub 0).sub 0) (ow.n2 _ (by simp [Nm.under])) (ow.tn _ (by simp [Nm.under]))]
  refine (step_sc ⟨5, 0, 0, 0, x.n, ⟨0, 0, 0⟩, ⟨0, 0, 0⟩⟩).use hw (by simp [ow.nn, hB]) (ht.up (ow.tn _ (by simp [Nm.under]))) hl (fun y t' h ht' hs => ?_) (fun k h => ?_)
  · simp
    exact sc_ok h ht'.down.1 hns (sub_of hs (by simp [Nm.under])) (gs_both (StWk.both (StWk.own_up (.refl _) (ow.base _ (by simp [Nm.under]))) (.inl rfl)))
  · simp
    exact sc_err h (StWk.own_up (.refl _) (ow.base _ (by simp [Nm.under])))
theorem pair_sc (x : Sb) (kids : AV) : SC 80 [.agg (x.cells kids)] (stepM ⟨2, 0, 0, 0, 0, x.to0, x.to1⟩) WOk := by
  intro w c l t B ns n hw hB ht hl
  refine acalls_val fun ns _ hns => ?_; refine acalls_of_wpc Tryz.mixed Tryz.dr80 Tryz.func80 rfl (Tryz.fit80 _ rfl) Tryz.en80 (fun hσ => ?_); simp [Tryz.ntmps80]
  have ow := Own.of hσ
  have hnt := ht.ne
  simp [ow.nn, ow.n2, hnt, ow.tn]
  rw [gs_swap (x := (ns.sub 0).sub 0) (ow.n2 _ (by simp [Nm.under])) (ow.tn _ (by simp [Nm.under]))]
  refine (step_sc ⟨2, 0, 0, 0, 0, x.to0, x.to1⟩).use hw (by simp [ow.nn, hB]) (ht.up (ow.tn _ (by simp [Nm.under]))) hl (fun y t' h ht' hs => ?_) (fun k h => ?_)
  · simp
    exact sc_ok h ht'.down.1 hns (sub_of hs (by simp [Nm.under])) (gs_both (StWk.both (StWk.own_up (.refl _) (ow.base _ (by simp [Nm.under]))) (.inl rfl)))
  · simp
    exact sc_err h (StWk.own_up (.refl _) (ow.base _ (by simp [Nm.under])))
/-- How an arm reaches a place. -/
def reachM (w : Ws) (c : Ce) (i : Int) (a : Nat) : J3 × Bool := near3 (sol (c.arm i) (plat c.places a).pos (plat c.places a).dir) (w.q i)
theorem fits_small {a : Ar} {q : J3} (h : RightP a) (hf : fits a q = true) : small q = true := by
  have := h.low; have := h.high
  simp [fits] at hf
  simp [small]; omega
theorem sol_fits {a : Ar} {p : V2} {d : Dr} {q : J3} (h : q ∈ sol a p d) : fits a q = true := by
  simp only [sol, sol1, sol2, sol3, List.mem_flatMap] at h
  obtain ⟨i, _, j, _, h⟩ := h
  split at h
  · simp only [List.mem_filter, List.mem_map] at h
    have := h.2
    simp at this
    exact this.2
  · simp at h
theorem sol_len {a : Ar} (p : V2) (d : Dr) (h : RightP a) : (sol a p d).length ≤ 50000 := by
  have h1 := h.low; have h2 := h.high
  have c1 : ∀ lo hi : Int, -17 ≤ lo → hi ≤ 18 → cnt lo hi ≤ 36 := fun lo hi g1 g2 => by unfold cnt; omega
  have := slen a p d 0 0 (n1 := cnt a.low.a a.high.a) (n2 := 0) (n3 := 0) (c1 _ _ h1.2.1 h2.2.1) (c1 _ _ h1.2.2 h2.2.2) (c1 _ _ h1.1 h2.1) (by omega) (by omega)
  unfold sol; omega
theorem reach_calls (w : Ws) (c : Ce) (o : AV) (i : Int) (hi : i = 0 ∨ i = 1) (a : Nat) (ha : a < c.places.length) (hp : placeOkP (plat c.places a)) (hw : WOk w c) (f0 : fits c.a0 w.q0 = true) (f1 : fits c.a1 w.q1 = true) (σ : Store) (ns n : Nm) (hn : σ n = some (.var (wkC w c o))) :
    ACalls Tryz.prog 107 [.ptr n 0, .int .i64 i, .int .i64 a] σ ns fun e σ' => σ' = σ ∧ (if (reachM w c i a).2 = true then e = .ret (reachM w c i a).1.av else e = .panic (errv 134)) := by
  have hg := plcs_get ha
  have hpos := hp.2.1
  refine acalls_val fun ns _ hns => ?_; refine acalls_of_wpc Tryz.mixed Tryz.dr107 Tryz.func107 rfl (Tryz.fit107 _ rfl) Tryz.en107 (fun hσ => ?_); simp [Tryz.ntmps107]
  have hnn := ne_own hσ hn
  have hn2 := own_ne hσ hn
  rcases hi with rfl | rfl
  · simp [hn, hnn, hn2, hg]
    first | refine Pure.use_le (solve_pure c.a0 (plat c.places a).pos (plat c.places a).dir hw.r0 hp.2.2.2 (by omega)) ?_ | refine callT_le (solve_pure c.a0 (plat c.places a).pos (plat c.places a).dir hw.r0 hp.2.2.2 (by omega)) ?_
    simp [hn, hnn, hn2]
    first | refine Pure.use_le (nearest_pure (sol c.a0 (plat c.places a).pos (plat c.places a).dir) w.q0 (by have := sol_len (plat c.places a).pos (plat c.places a).dir hw.r0; omega) (fun x hx => fits_small hw.r0 (sol_fits hx)) (fits_small hw.r0 f0)) ?_ | refine callT_le (nearest_pure (sol c.a0 (plat c.places a).pos (plat c.places a).dir) w.q0 (by have := sol_len (plat c.places a).pos (plat c.places a).dir hw.r0; omega) (fun x hx => fits_small hw.r0 (sol_fits hx)) (fits_small hw.r0 f0)) ?_
    simp
    have e1 : reachM w c 0 a = near3 (sol c.a0 (plat c.places a).pos (plat c.places a).dir) w.q0 := rfl
    rw [← e1]
    refine check_use (by decide) (fun h => ?_) (fun h => ?_) <;> simp
    · exact endA_same ⟨rfl, by rw [if_pos h]⟩ (by simp)
    · exact endP_same ⟨rfl, by rw [if_neg (by simp [h])]⟩ (by simp)
  · simp [hn, hnn, hn2, hg]
    first | refine Pure.use_le (solve_pure c.a1 (plat c.places a).pos (plat c.places a).dir hw.r1 hp.2.2.2 (by omega)) ?_ | refine callT_le (solve_pure c.a1 (plat c.places a).pos (plat c.places a).dir hw.r1 hp.2.2.2 (by omega)) ?_
    simp [hn, hnn, hn2]
    first | refine Pure.use_le (nearest_pure (sol c.a1 (plat c.places a).pos (plat c.places a).dir) w.q1 (by have := sol_len (plat c.places a).pos (plat c.places a).dir hw.r1; omega) (fun x hx => fits_small hw.r1 (sol_fits hx)) (fits_small hw.r1 f1)) ?_ | refine callT_le (nearest_pure (sol c.a1 (plat c.places a).pos (plat c.places a).dir) w.q1 (by have := sol_len (plat c.places a).pos (plat c.places a).dir hw.r1; omega) (fun x hx => fits_small hw.r1 (sol_fits hx)) (fits_small hw.r1 f1)) ?_
    simp
    have e1 : reachM w c 1 a = near3 (sol c.a1 (plat c.places a).pos (plat c.places a).dir) w.q1 := rfl
    rw [← e1]
    refine check_use (by decide) (fun h => ?_) (fun h => ?_) <;> simp
    · exact endA_same ⟨rfl, by rw [if_pos h]⟩ (by simp)
    · exact endP_same ⟨rfl, by rw [if_neg (by simp [h])]⟩ (by simp)
end Go.Proofs
