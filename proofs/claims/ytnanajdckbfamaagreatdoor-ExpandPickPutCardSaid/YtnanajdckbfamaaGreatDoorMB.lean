/- A13, A14, A16, A18, joined. -/
import Derived.Test.YtnanajdckbfamaaGreatDoorA12
import Derived.ProofKit
import Derived.OpenShut
/- A variable that is not stored into any more: its cells by value. -/
set_option linter.unusedVariables false
set_option linter.unusedSimpArgs false
namespace Go.Abs
section
variable {P : Program}

theorem Rel.freeze {ρ : Names} {M : Mem} {σ : Store} {w : World} {n : Nm} {cs : List AV} (hr : Rel ρ M σ w) (hn : σ n = some (.var cs)) :
    ∃ p M', ρ n = some p ∧ p.o = 0 ∧ Grows ρ M ρ M' ∧ Rel ρ M' (σ.del n) w ∧ VR ρ M' (.cptr cs) (.pointer (some ⟨p.b, 0, none⟩)) ∧ ∀ a, (M' a).isSome = true → (M a).isSome = true ∨ a.block = p.b := by
  obtain ⟨p, hp, h0, xs, us, T, hh, ⟨hv, hpk⟩, hm⟩ := hr.lies n _ hn
  have hg : Grows ρ M ρ (M.with p.b xs xs.length) := ⟨fun _ _ h => h, fun a x h => by
    unfold Mem.with
    rw [if_neg (fun hc => by rw [hm a hc.1] at h; cases h)]; exact h⟩
  refine ⟨p, M.with p.b xs xs.length, hp, h0, hg, ⟨fun a x hx => ?_, fun m o hmo => ?_, fun m k p' q' hm' hk' => ?_⟩, ?_, fun a ha => ?_⟩
  · unfold Mem.with at hx
    split at hx
    · rename_i hc
      unfold World.cell?
      have hx' : (xs ++ us)[a.off]? = some x := by rw [List.getElem?_append_left hc.2.2]; exact hx
      rw [hc.1, hh]
      simp only [hc.2.1]
      simpa using hx'
    · exact hr.mem a x hx
  · have hne : m ≠ n := fun e => by subst e; simp [Store.del] at hmo
    have hmo' : σ m = some o := by simpa [Store.del, hne] using hmo
    obtain ⟨q, hq, ho⟩ := hr.lies m o hmo'
    have hqb : q.b ≠ p.b := fun e => hne (hr.inj m n q p (by simp [hmo']) (by simp [hn]) hq hp e)
    refine ⟨q, hq, ?_⟩
    cases o with
    | var cs' =>
      obtain ⟨g0, ys, vs, T', gh, gv, gm⟩ := ho
      exact ⟨g0, ys, vs, T', gh, ⟨gv.1.mono hg, gv.2⟩, fun a ha => by unfold Mem.with; rw [if_neg (fun hc => hqb (ha ▸ hc.1))]; exact gm a ha⟩
    | tok =>
      obtain ⟨ys, T', gh, gf, gm⟩ := ho
      exact ⟨ys, T', gh, gf, fun a ha hoff => by unfold Mem.with; rw [if_neg (fun hc => hqb (ha ▸ hc.1))]; exact gm a ha hoff⟩
    | map es =>
      obtain ⟨ys, c, gh, gl, ge⟩ := ho
      exact ⟨ys, c, gh, gl, fun i e x he hx => ⟨(ge i e x he hx).1.mono hg, (ge i e x he hx).2.mono hg⟩⟩
    | other o => exact ho
    | glob b o => exact ho
  · have h1 : (σ m).isSome = true := by
      by_cases e : m = n
      · subst e; simp [Store.del] at hm'
      · simpa [Store.del, e] using hm'
    have h2 : (σ k).isSome = true := by
      by_cases e : k = n
      · subst e; simp [Store.del] at hk'
      · simpa [Store.del, e] using hk'
    exact hr.inj m k p' q' h1 h2
  · have hget : ∀ j, j < xs.length → (M.with p.b xs xs.length) ⟨p.b, 0 + j, none⟩ = xs[j]? := fun j hj => by
      unfold Mem.with; simp [hj]
    refine .cptr (fun j v hv' => ?_) (fun j v x hv' hx => ?_)
    · obtain ⟨x, hx, _⟩ := hv.ex hv'
      rw [hget j (List.getElem?_eq_some_iff.1 hx).1, hx]; rfl
    · obtain ⟨y, hy, hvy⟩ := hv.ex hv'
      rw [hget j (List.getElem?_eq_some_iff.1 hy).1, hy] at hx
      injection hx with hx; subst hx
      exact hvy.mono hg
  · unfold Mem.with at ha
    split at ha
    · rename_i hc; exact .inr hc.1
    · exact .inl ha

/-- A closure that has caught a variable of its own maker. -/
theorem ACalls.freeze {g : FuncId} {args : List AV} {σ : Store} {ns n : Nm} {f : Fn} {fs pre post cs : List AV} (hn : n.under ns = true)
    (h : ACalls P g args σ ns fun e σ' => e = .ret (.fn f fs (pre ++ .ptr n 0 :: post)) ∧ σ' = σ.up n (.var cs)) :
    ACalls P g args σ ns fun e σ' => e = .ret (.fn f fs (pre ++ .cptr cs :: post)) ∧ σ' = σ := by
  refine ⟨h.1, fun ρ M w xs h1 h2 h3 => (h.2 ρ M w xs h1 h2 h3).mono ?_⟩
  rintro e w' ⟨ae, σ', ρ', M', he, ⟨rfl, rfl⟩, hr, hev⟩
  obtain ⟨p, M'', hp, hp0, hg, hr2, hv, hnew⟩ := hr.freeze (n := n) (cs := cs) (by simp)
  have hσn : σ n = none := by
    cases hx : σ n with
    | none => rfl
    | some o => obtain ⟨q, hq, _⟩ := h1.lies n o hx; rw [h2 n hn] at hq; cases hq
  have hdel : (σ.up n (.var cs)).del n = σ := by
    funext m; unfold Store.del Store.up
    by_cases e : m = n
    · subst e; simp [hσn]
    · simp [e]
  rw [hdel] at hr2
  refine ⟨_, σ, ρ', M'', ?_, ⟨rfl, rfl⟩, hr2, hev.grows.trans hg, hev.size, hev.os, hev.tape, hev.output, hev.keep, fun b ⟨m, q, hm, hq, eb⟩ => hev.own b ⟨m, q, ?_, hq, eb⟩, fun a ha => ?_, hev.names, fun _ h => .inl h⟩
  · cases he with
    | ret hx =>
      cases hx with
      | fn hl1 hl2 g1 g2 =>
        rename_i fx cx
        refine .ret (.fn hl1 (by simpa using hl2) (fun i v x hv' hx' => (g1 i v x hv' hx').mono hg) (fun i v x hv' hx' => ?_))
        have hlen : (pre ++ AV.ptr n 0 :: post).length = (pre ++ AV.cptr cs :: post).length := by simp
        by_cases hi : i = pre.length
        · subst hi
          have e1 : (pre ++ AV.cptr cs :: post)[pre.length]? = some (AV.cptr cs) := by simp
          have e2 : (pre ++ AV.ptr n 0 :: post)[pre.length]? = some (AV.ptr n 0) := by simp
          rw [e1] at hv'; injection hv' with hv'; subst hv'
          have := g2 _ _ x e2 hx'
          cases this with
          | ptr hq =>
            rw [hp] at hq; injection hq with hq; subst hq
            rw [hp0]; exact hv
        · have e1 : (pre ++ AV.cptr cs :: post)[i]? = (pre ++ AV.ptr n 0 :: post)[i]? := by
            rw [List.getElem?_append, List.getElem?_append]
            split
            · rfl
            · obtain ⟨k, hk⟩ : ∃ k, i - pre.length = k + 1 := ⟨i - pre.length - 1, by omega⟩
              rw [hk]; rfl
          rw [e1] at hv'
          exact (g2 _ _ x hv' hx').mono hg
  · by_cases e : m = n
    · subst e; rw [hσn] at hm; cases hm
    · simpa [Store.up, e] using hm
  · rcases hnew a ha with h | h
    · exact hev.memNew a h
    · rcases hev.own p.b ⟨n, p, by simp, hp, rfl⟩ with h' | h'
      · exact .inr (.inl (h ▸ h'))
      · exact .inr (.inr (h ▸ h'))
/-- .. where other variables have been made, too. -/
theorem ACalls.freezeT {g : FuncId} {args : List AV} {σ τ : Store} {ns n : Nm} {f : Fn} {fs pre post cs : List AV} (hτ : (∀ m, m.under ns = true → σ m = none) → τ n = none)
    (h : ACalls P g args σ ns fun e σ' => e = .ret (.fn f fs (pre ++ .ptr n 0 :: post)) ∧ σ' = τ.up n (.var cs)) :
    ACalls P g args σ ns fun e σ' => e = .ret (.fn f fs (pre ++ .cptr cs :: post)) ∧ σ' = τ := by
  refine ⟨h.1, fun ρ M w xs h1 h2 h3 => (h.2 ρ M w xs h1 h2 h3).mono ?_⟩
  rintro e w' ⟨ae, σ', ρ', M', he, ⟨rfl, rfl⟩, hr, hev⟩
  obtain ⟨p, M'', hp, hp0, hg, hr2, hv, hnew⟩ := hr.freeze (n := n) (cs := cs) (by simp)
  have hτn : τ n = none := hτ fun m hm => by
    cases hx : σ m with
    | none => rfl
    | some o => obtain ⟨q, hq, _⟩ := h1.lies m o hx; rw [h2 m hm] at hq; cases hq
  have hup : ∀ m, (τ m).isSome = true → ((τ.up n (.var cs)) m).isSome = true := fun m hm => by
    rw [Store.up_get]; split
    · rfl
    · exact hm
  have hdel : (τ.up n (.var cs)).del n = τ := by
    funext m; unfold Store.del Store.up
    by_cases e : m = n
    · subst e; simp [hτn]
    · simp [e]
  rw [hdel] at hr2
  refine ⟨_, τ, ρ', M'', ?_, ⟨rfl, rfl⟩, hr2, hev.grows.trans hg, hev.size, hev.os, hev.tape, hev.output, hev.keep, fun b ⟨m, q, hm, hq, eb⟩ => hev.own b ⟨m, q, hup m hm, hq, eb⟩, fun a ha => ?_, hev.names, fun m hm => hev.dom m (hup m hm)⟩
  · cases he with
    | ret hx =>
      cases hx with
      | fn hl1 hl2 g1 g2 =>
        rename_i fx cx
        refine .ret (.fn hl1 (by simpa using hl2) (fun i v x hv' hx' => (g1 i v x hv' hx').mono hg) (fun i v x hv' hx' => ?_))
        have hlen : (pre ++ AV.ptr n 0 :: post).length = (pre ++ AV.cptr cs :: post).length := by simp
        by_cases hi : i = pre.length
        · subst hi
          have e1 : (pre ++ AV.cptr cs :: post)[pre.length]? = some (AV.cptr cs) := by simp
          have e2 : (pre ++ AV.ptr n 0 :: post)[pre.length]? = some (AV.ptr n 0) := by simp
          rw [e1] at hv'; injection hv' with hv'; subst hv'
          have := g2 _ _ x e2 hx'
          cases this with
          | ptr hq =>
            rw [hp] at hq; injection hq with hq; subst hq
            rw [hp0]; exact hv
        · have e1 : (pre ++ AV.cptr cs :: post)[i]? = (pre ++ AV.ptr n 0 :: post)[i]? := by
            rw [List.getElem?_append, List.getElem?_append]
            split
            · rfl
            · obtain ⟨k, hk⟩ : ∃ k, i - pre.length = k + 1 := ⟨i - pre.length - 1, by omega⟩
              rw [hk]; rfl
          rw [e1] at hv'
          exact (g2 _ _ x hv' hx').mono hg
  · rcases hnew a ha with h | h
    · exact hev.memNew a h
    · rcases hev.own p.b ⟨n, p, by simp, hp, rfl⟩ with h' | h'
      · exact .inr (.inl (h ▸ h'))
      · exact .inr (.inr (h ▸ h'))
theorem AVle.vs {l l' l'' : List AV} (h : AVsle l l') (h' : AVsle l' l'') : AVsle l l'' :=
  ⟨h.1.trans h'.1, fun i v v'' hv hv'' => by
    have hi : i < l'.length := by rw [← h.1]; exact (List.getElem?_eq_some_iff.1 hv).1
    exact AVle.trans (h.2 i v l'[i] hv (List.getElem?_eq_getElem hi)) (h'.2 i l'[i] v'' (List.getElem?_eq_getElem hi) hv'')⟩
theorem VarWk.trans {a b c : AObj} (h : VarWk a b) (h' : VarWk b c) : VarWk a c := by
  rcases h with rfl | ⟨x, y, rfl, rfl, h⟩
  · exact h'
  · rcases h' with rfl | ⟨x', y', e, rfl, h'⟩
    · exact .inr ⟨x, y, rfl, rfl, h⟩
    · injection e with e; subst e
      exact .inr ⟨x, y', rfl, rfl, AVle.vs h h'⟩
theorem StWeak.pre {ns : Nm} {σ τ τ' σ' : Store} (h : StWk τ τ') (h' : StWeak ns σ τ' σ') : StWeak ns σ τ σ' := fun n => by
  rcases h' n with h1 | h1
  · exact .inl h1
  · refine .inr fun o ho => ?_
    obtain ⟨o', ho', hw⟩ := h1 o ho
    obtain ⟨o'', ho'', hw'⟩ := h n o' ho'
    exact ⟨o'', ho'', hw'.trans hw⟩
class StWkC (τ τ' : Store) : Prop where
  h : StWk τ τ'
instance StWkC.refl {τ : Store} : StWkC τ τ := ⟨.refl τ⟩
instance StWkC.var {τ τ' : Store} {n : Nm} {cs cs' : List AV} [h : StWkC τ τ'] [hc : AVsLe cs cs'] : StWkC (τ.up n (.var cs)) (τ'.up n (.var cs')) := ⟨fun m o ho => by
  unfold Store.up at ho ⊢
  split at ho
  · rename_i e; injection ho with ho; subst ho
    rw [if_pos e]; exact ⟨_, rfl, .inr ⟨cs, cs', rfl, rfl, hc.le⟩⟩
  · rename_i e; rw [if_neg e]; exact h.h m o ho⟩
instance StWkC.tok {τ τ' : Store} {n : Nm} {o : AObj} [h : StWkC τ τ'] : StWkC (τ.up n o) (τ'.up n o) := ⟨fun m o' ho => by
  unfold Store.up at ho ⊢
  split at ho
  · rename_i e; rw [if_pos e]; exact ⟨_, ho, .inl rfl⟩
  · rename_i e; rw [if_neg e]; exact h.h m o' ho⟩
theorem endA_eq {v v' : AV} {τ σ : Store} {ns : Nm} (h : v = v') (hw : restoreS ns [] σ τ = σ) : endA (some v) τ [] σ ns (fun e σ' => e = .ret v' ∧ σ' = σ) := by subst h; exact endA_pure hw
theorem endA_le' {v v' : AV} {τ σ : Store} {ns : Nm} (h : AVle v v') (hw : restoreS ns [] σ τ = σ) : endA (some v) τ [] σ ns (fun e σ' => e = .ret v' ∧ σ' = σ) := ⟨rfl, v, rfl, v', σ, h, .same hw, rfl, rfl⟩
attribute [simp] aeq aeqFields aeqElems
theorem wrap64 {n : Int} (h1 : -9223372036854775808 ≤ n) (h2 : n ≤ 9223372036854775807) : IntKind.wrap .i64 n = n := by
  simp only [IntKind.wrap, IntKind.bits, IntKind.signed]
  simp
  split <;> omega
end
end Go.Abs

/- From the rows' readings to the walk's values, and back. -/
set_option linter.unusedVariables false
set_option linter.unusedSimpArgs false
namespace Go.Abs
open Go.ChangeShapes Go.WideShapes Go.ChangeAt Go.RowKit

/-- All of memory, as it lies. -/
def memOf (w : World) : Mem := fun a => w.cell? a
def noNames : Names := fun _ => none

/-- What is read of a type's cells: a datum of α, told by its cells. -/
structure Reads (P : Program) (t : TypeId) {α : Type} (cells : α → List AV) (wf : α → Prop) : Prop where
  mk ::
  read : ∀ {H : Type} {enc : TypeId × Value → H} {w : World} {fuel : Nat} {cs : List Value} {x : DataW H × List MemPlace},
    DataW.trod enc P w 0 (fun _ => true) true fuel t cs = some x → ∃ a : α, wf a ∧ VRs noNames (memOf w) (cells a) cs

theorem VRs.one_ {ρ : Names} {M : Mem} {v : AV} {x : Value} (h : VR ρ M v x) : VRs ρ M [v] [x] := .cons h .nil

section
variable {P : Program} {t e : TypeId}
theorem Reads.int {k : IntKind} (ht : P.underlying t = some (.int k)) : Reads P t (fun n : Int => [.int k n]) (fun n => k.min ≤ n ∧ n ≤ k.max) := ⟨fun h => by
  obtain ⟨n, rfl, _, hw⟩ := DataW.trod_int ht h
  exact ⟨n, by simpa [Lit.wf] using hw, .one_ (.int _ _)⟩⟩
theorem Reads.bool (ht : P.underlying t = some .bool) : Reads P t (fun b : Bool => [.bool b]) (fun _ => True) := ⟨fun h => by
  obtain ⟨b, rfl, _⟩ := DataW.trod_bool ht h
  exact ⟨b, trivial, .one_ (.bool _)⟩⟩
theorem Reads.string (ht : P.underlying t = some .string) : Reads P t (fun s : ByteArray => [.str s]) (fun s => s.size ≤ maxLen) := ⟨fun h => by
  obtain ⟨s, rfl, _, hs⟩ := DataW.trod_string ht h
  exact ⟨s, hs, .one_ (.str _)⟩⟩
theorem Reads.map {α β : Type} {c : α → List AV} {w : α → Prop} {c' : β → List AV} {w' : β → Prop} (h : Reads P t c w) (f : α → β) (hc : ∀ a, c' (f a) = c a) (hw : ∀ a, w a → w' (f a)) : Reads P t c' w' := ⟨fun hx => by
  obtain ⟨a, ha, hv⟩ := h.read hx
  exact ⟨f a, hw a ha, by rw [hc]; exact hv⟩⟩

theorem cells?_get {w : World} {base : Nat} {a : Addr} {n : Nat} {cs : List Value} (h : w.cells? base a n = some cs) : cs.length = n ∧ ∀ j v, cs[j]? = some v → w.cell? (a.add j) = some v := by
  unfold World.cells? at h
  split at h
  · have hl := mapM_some_length h
    have := mapM_some_get h
    refine ⟨by simpa using hl, fun j v hv => ?_⟩
    obtain ⟨i, hi, hi2⟩ := this j v hv
    have hj : j < n := by
      have := (List.getElem?_eq_some_iff.1 hv).1; rw [hl] at this; simpa using this
    rw [List.getElem?_range hj] at hi; injection hi with hi; subst hi; exact hi2
  · cases h
where
  mapM_some_length {α β : Type} {f : α → Option β} : ∀ {l : List α} {r : List β}, l.mapM f = some r → r.length = l.length
    | [], r, h => by simp at h; subst h; rfl
    | a :: l, r, h => by
      simp only [List.mapM_cons] at h
      cases ha : f a with
      | none => simp [ha] at h
      | some b =>
        cases hl : l.mapM f with
        | none => simp [ha, hl] at h
        | some r' => simp [ha, hl] at h; subst h; simp [mapM_some_length hl]
  mapM_some_get {α β : Type} {f : α → Option β} : ∀ {l : List α} {r : List β}, l.mapM f = some r → ∀ (j : Nat) (b : β), r[j]? = some b → ∃ a, l[j]? = some a ∧ f a = some b
    | [], r, h, j, b, hb => by simp at h; subst h; simp at hb
    | a :: l, r, h, j, b, hb => by
      simp only [List.mapM_cons] at h
      cases ha : f a with
      | none => simp [ha] at h
      | some b' =>
        cases hl : l.mapM f with
        | none => simp [ha, hl] at h
        | some r' =>
          simp [ha, hl] at h; subst h
          cases j with
          | zero => simp at hb; subst hb; exact ⟨a, rfl, ha⟩
          | succ j => simp at hb; exact mapM_some_get hl j b hb

theorem cell?_spot {w : World} {a : Addr} {v : Value} (h : w.cell? a = some v) : a.spot = none := by
  unfold World.cell? at h
  split at h
  · split at h
    · cases h
    · rename_i hs; simpa using hs
  · cases h

theorem Reads.slice {α : Type} {c : α → List AV} {wf : α → Prop} (ht : P.underlying t = some (.slice e)) {k : Nat} (hk : P.cellsOf e = k) (hk0 : 0 < k) (he : Reads P e c wf) :
    Reads P t (fun l : List α => [.sl k (l.map c) .unk]) (fun l => l.length ≤ maxLen ∧ ∀ x ∈ l, wf x) := ⟨fun {H enc w fuel cs x} h => by
  rcases DataW.trod_slice ht h with ⟨rfl, _⟩ | ⟨a, len, cap, elems, rest, n, _, rfl, _, _, hl, hm, hlen, hel, hsp, hns⟩
  · exact ⟨[], ⟨by simp, by simp⟩, .one_ (.slnil (.inl rfl))⟩
  · rw [hk] at hel hsp
    have hread : ∀ i, i < len → ∃ cs' y, w.cells? 0 (a.add (i * k)) k = some cs' ∧ DataW.trod enc P w 0 (fun _ => true) true n e cs' = some y := fun i hi => by
      have h1 := hel i hi
      rw [List.getElem?_eq_getElem (by omega)] at h1
      cases hc : w.cells? 0 (a.add (i * k)) k with
      | none => rw [hc] at h1; cases h1
      | some cs' => rw [hc] at h1; exact ⟨cs', _, rfl, h1⟩
    have hall : ∀ i, i < len → ∃ z : α, wf z ∧ ∃ cs', w.cells? 0 (a.add (i * k)) k = some cs' ∧ VRs noNames (memOf w) (c z) cs' := fun i hi => by
      obtain ⟨cs', y, h1, h2⟩ := hread i hi
      obtain ⟨z, hz, hv⟩ := he.read h2
      exact ⟨z, hz, cs', h1, hv⟩
    have hspot : 0 < cap → a.spot = none := fun hc => by
      have key : ∀ cs', w.cells? 0 (a.add (0 * k)) k = some cs' → a.spot = none := fun cs' h => by
        obtain ⟨h1, h2⟩ := cells?_get h
        have h3 := h2 0 (cs'[0]'(by omega)) (List.getElem?_eq_getElem (by omega))
        have e1 : (a.add (0 * k)).add 0 = a := by simp [Addr.add]
        rw [e1] at h3
        exact cell?_spot h3
      by_cases h0 : 0 < len
      · obtain ⟨cs', y, h1, _⟩ := hread 0 h0
        exact key cs' h1
      · have hlen0 : len = 0 := by omega
        obtain ⟨h1, h2⟩ := hsp rfl
        have h3 := h2 0 (by omega)
        rw [hlen0] at h3 h1
        rw [List.getElem?_eq_getElem (by omega)] at h3
        cases hcc : w.cells? 0 (a.add ((0 + 0) * k)) k with
        | none => rw [hcc] at h3; cases h3
        | some cs' => exact key cs' (by simpa using hcc)
    obtain ⟨f, hf⟩ : ∃ f : Fin len → α, ∀ i : Fin len, wf (f i) ∧ ∃ cs', w.cells? 0 (a.add (i.val * k)) k = some cs' ∧ VRs noNames (memOf w) (c (f i)) cs' :=
      ⟨fun i => (hall i.val i.isLt).choose, fun i => (hall i.val i.isLt).choose_spec⟩
    refine ⟨List.ofFn f, ⟨by simp; omega, fun x hx => ?_⟩, .one_ ?_⟩
    · obtain ⟨i, rfl⟩ := List.mem_ofFn.1 hx
      exact (hf i).1
    · by_cases hc0 : cap = 0
      · have hlen0 : len = 0 := by omega
        subst hc0; subst hlen0
        simp only [List.ofFn_zero, List.map_nil]
        exact .slz a (.inl rfl)
      · have hs := hspot (by omega)
        have ha : a = ⟨a.block, a.off, none⟩ := by cases a; simp_all
        have hlm : ((List.ofFn f).map c).length = len := by simp
        have hget : ∀ (i : Nat) (e' : List AV), ((List.ofFn f).map c)[i]? = some e' → ∃ hi : i < len, e' = c (f ⟨i, hi⟩) := fun i e' he' => by
          have hi : i < len := by rw [← hlm]; exact (List.getElem?_eq_some_iff.1 he').1
          refine ⟨hi, ?_⟩
          simp [hi] at he'
          exact he'.symm
        have cell : ∀ (i : Nat) (hi : i < len) (j : Nat) (v : AV), (c (f ⟨i, hi⟩))[j]? = some v → ∃ x, memOf w ⟨a.block, a.off + i * k + j, none⟩ = some x ∧ VR noNames (memOf w) v x := fun i hi j v hv => by
          obtain ⟨_, cs', h1, h2⟩ := hf ⟨i, hi⟩
          obtain ⟨x, hx, hvx⟩ := h2.ex hv
          have h3 := (cells?_get h1).2 j x hx
          rw [ha, Addr.add_mid, Addr.add_mid] at h3
          exact ⟨x, h3, hvx⟩
        rw [ha]
        have := VR.sl (ρ := noNames) (M := memOf w) (sz := k) (es := (List.ofFn f).map c) (c := .unk) (b := a.block) (o := a.off) (cap := cap) (fun e' he' => ?_) (by rw [hlm]; exact hl) ⟨fun h => (by cases h), by simp⟩ (fun n h => by cases h)
          (fun i j e' v he' hv => ?_) (fun i j e' v x he' hv hx => ?_)
        · rw [hlm] at this; exact this
        · obtain ⟨i, hi, hi2⟩ := List.getElem_of_mem he'
          obtain ⟨hi', rfl⟩ := hget i e' (by rw [← hi2]; exact List.getElem?_eq_getElem hi)
          obtain ⟨_, cs', h1, h2⟩ := hf ⟨i, hi'⟩
          rw [h2.len]; exact (cells?_get h1).1
        · obtain ⟨hi, rfl⟩ := hget i e' he'
          obtain ⟨x, hx, _⟩ := cell i hi j v hv
          rw [hx]; rfl
        · obtain ⟨hi, rfl⟩ := hget i e' he'
          obtain ⟨y, hy, hvy⟩ := cell i hi j v hv
          rw [hy] at hx; injection hx with hx; subst hx; exact hvy⟩

/-- A struct's fields, one behind the other. -/
inductive FieldsRead (P : Program) : List Field → Nat → (α : Type) → (α → List AV) → (α → Prop) → Prop
  | nil (off : Nat) : FieldsRead P [] off Unit (fun _ => []) (fun _ => True)
  | cons {f : Field} {fs : List Field} {off k : Nat} {α β : Type} {c : α → List AV} {w : α → Prop} {c' : β → List AV} {w' : β → Prop} (ho : f.offset = off) (hk : P.cellsOf f.type = k) (h : Reads P f.type c w) (hs : FieldsRead P fs (off + k) β c' w') :
      FieldsRead P (f :: fs) off (α × β) (fun x => c x.1 ++ c' x.2) (fun x => w x.1 ∧ w' x.2)

theorem FieldsRead.read {H : Type} {enc : TypeId × Value → H} {w : World} {n : Nat} {cs : List Value} {fs : List Field} {off : Nat} {α : Type} {c : α → List AV} {wf : α → Prop} (h : FieldsRead P fs off α c wf)
    (hx : ∀ f ∈ fs, ∃ y, DataW.trod enc P w 0 (fun _ => true) true n f.type ((cs.drop f.offset).take (P.cellsOf f.type)) = some y) (hl : cs.length = off + (fs.map fun f => P.cellsOf f.type).sum) : ∃ a : α, wf a ∧ VRs noNames (memOf w) (c a) (cs.drop off) := by
  induction h with
  | nil off => exact ⟨(), trivial, by rw [List.drop_eq_nil_of_le (by simp at hl; omega)]; exact .nil⟩
  | @cons f fs off k α β c w1 c' w2 ho hk h hs ih =>
    obtain ⟨y, hy⟩ := hx f (by simp)
    obtain ⟨a, ha, hv⟩ := h.read hy
    obtain ⟨b, hb, hv'⟩ := ih (fun g hg => hx g (by simp [hg])) (by simp [hk] at hl; omega)
    refine ⟨(a, b), ⟨ha, hb⟩, ?_⟩
    have := hv.append hv'
    rw [ho, hk] at this
    rw [← List.drop_drop, List.take_append_drop] at this
    exact this
theorem Reads.struct {fs : Array Field} {α : Type} {c : α → List AV} {wf : α → Prop} (ht : P.underlying t = some (.struct fs)) (h : FieldsRead P fs.toList 0 α c wf) (hk : P.cellsOf t = (fs.toList.map fun f => P.cellsOf f.type).sum) : Reads P t c wf := ⟨fun {H enc w fuel cs x} hx => by
  obtain ⟨xs, n, _, _, hlen, hxl, hf⟩ := DataW.trod_struct ht hx
  have := h.read (enc := enc) (w := w) (n := n) (cs := cs) (fun f hfm => by
    obtain ⟨i, hi, hfi⟩ := List.getElem_of_mem hfm
    have hi' : i < fs.size := by simpa using hi
    have := hf i f (by rw [← hfi]; simp [hi'])
    rw [List.getElem?_eq_getElem (by omega)] at this
    exact ⟨_, this⟩) (by omega)
  simpa using this⟩

/-- An array: its elements as a struct's fields. -/
theorem Reads.array {n k : Nat} {fs : List Field} {α : Type} {c : α → List AV} {wf : α → Prop} (ht : P.underlying t = some (.array n e)) (hk : P.cellsOf e = k) (hn : fs.length = n) (hf : ∀ i f, fs[i]? = some f → f.type = e ∧ f.offset = i * k) (h : FieldsRead P fs 0 α c wf) (hc : P.cellsOf t = n * k) : Reads P t c wf := ⟨fun {H enc w fuel cs x} hx => by
  obtain ⟨xs, m, _, _, hlen, hxl, hel⟩ := DataW.trod_array ht hx
  have hsum : ∀ (l : List Field), (∀ f ∈ l, P.cellsOf f.type = k) → (l.map fun f => P.cellsOf f.type).sum = l.length * k := by
    intro l
    induction l with
    | nil => simp
    | cons f l ih => intro h; simp [h f (by simp), ih fun g hg => h g (by simp [hg]), Nat.succ_mul, Nat.add_comm]
  have hall : ∀ f ∈ fs, P.cellsOf f.type = k := fun f hfm => by
    obtain ⟨i, hi, hfi⟩ := List.getElem_of_mem hfm
    rw [(hf i f (by rw [← hfi]; exact List.getElem?_eq_getElem hi)).1, hk]
  have := h.read (enc := enc) (w := w) (n := m) (cs := cs) (fun f hfm => by
    obtain ⟨i, hi, hfi⟩ := List.getElem_of_mem hfm
    obtain ⟨h1, h2⟩ := hf i f (by rw [← hfi]; exact List.getElem?_eq_getElem hi)
    have := hel i (by omega)
    rw [List.getElem?_eq_getElem (by omega)] at this
    rw [h1, h2, ← hk]
    exact ⟨_, this⟩) (by rw [hsum fs hall, hn, hlen, hc]; omega)
  simpa using this⟩

/-! ### Arguments -/
/-- What an argument of type t is read as. -/
structure ArgReads (P : Program) (t : TypeId) {α : Type} (av : α → AV) (wf : α → Prop) : Prop where
  mk ::
  read : ∀ {H : Type} {enc : TypeId × Value → H} {w : World} {base : Nat} {v : Value} {d : DataW H} {ps : List MemPlace}, Value.okWide P w .any base t v → DataW.Trod enc P w 0 (fun _ => true) true t v d ps → ∃ a : α, wf a ∧ VR noNames (memOf w) (av a) v
theorem Reads.arg_agg {α : Type} {c : α → List AV} {wf : α → Prop} {fs : Array Field} (ht : P.underlying t = some (.struct fs)) (h : Reads P t c wf) : ArgReads P t (fun a => .agg (c a)) wf := ⟨fun {H enc w base v d ps} ho hd => by
  obtain ⟨cs, rfl, _⟩ := okWide_struct ht ho
  obtain ⟨fuel, hf⟩ := hd
  obtain ⟨a, ha, hv⟩ := h.read hf
  exact ⟨a, ha, VR.agg_iff.2 ⟨cs.toList, by simp, by simpa [Value.cells] using hv⟩⟩⟩
theorem Reads.arg_array {n : Nat} {α : Type} {c : α → List AV} {wf : α → Prop} (ht : P.underlying t = some (.array n e)) (h : Reads P t c wf) : ArgReads P t (fun a => .agg (c a)) wf := ⟨fun {H enc w base v d ps} ho hd => by
  simp only [Value.okWide, ht] at ho
  obtain ⟨cs, rfl, _⟩ := ho
  obtain ⟨fuel, hf⟩ := hd
  obtain ⟨a, ha, hv⟩ := h.read hf
  exact ⟨a, ha, VR.agg_iff.2 ⟨cs.toList, by simp, by simpa [Value.cells] using hv⟩⟩⟩
theorem Reads.arg_slice {α : Type} {c : α → AV} {wf : α → Prop} (ht : P.underlying t = some (.slice e)) (h : Reads P t (fun a => [c a]) wf) : ArgReads P t c wf := ⟨fun {H enc w base v d ps} ho hd => by
  obtain ⟨a, len, cap, rfl⟩ := okWide_slice ht ho
  obtain ⟨fuel, hf⟩ := hd
  obtain ⟨a, ha, hv⟩ := h.read hf
  exact ⟨a, ha, by simpa [Value.cells] using hv.head⟩⟩
theorem Reads.arg_int {α : Type} {c : α → AV} {wf : α → Prop} {k : IntKind} (ht : P.underlying t = some (.int k)) (h : Reads P t (fun a => [c a]) wf) : ArgReads P t c wf := ⟨fun {H enc w base v d ps} ho hd => by
  obtain ⟨n, rfl⟩ := okWide_int ht ho
  obtain ⟨fuel, hf⟩ := hd
  obtain ⟨a, ha, hv⟩ := h.read hf
  exact ⟨a, ha, by simpa [Value.cells] using hv.head⟩⟩

/-- The contract of a law's call, at the machine. -/
theorem Pure.calls {f : FuncId} {avs : List AV} {v : AV} (h : Pure P f avs v) {W : World} {vs : List Value} (hv : VRs noNames (memOf W) avs vs) :
    Calls P f vs.toArray W fun e W' => (∃ ρ M x, e = .returned x ∧ VR ρ M v x) ∧ Below W.heap.size W W' := by
  have hr : Rel noNames (memOf W) (fun _ => none) W := ⟨fun a x h => h, fun n o h => (by cases h), fun n m p q h => (by cases h)⟩
  refine ((h (fun _ => none) .root).2 noNames (memOf W) W vs hr (fun _ _ => rfl) hv).mono ?_
  rintro e W' ⟨ae, σ', ρ', M', he, ⟨rfl, rfl⟩, _, hev⟩
  refine ⟨?_, hev.os, hev.tape, hev.output, hev.size, fun k hk => hev.keep k hk (fun ⟨n, p, hn, _⟩ => by cases hn)⟩
  cases he with
  | ret hx => exact ⟨_, _, _, rfl, hx⟩

/-- ARGS, all of them: below the heap's old size nothing has turned. -/
theorem trodAll_below {H : Type} {enc : TypeId × Value → H} (hl : laidOutB P = true) {W W' : World} (hb : Below W.heap.size W W') {sp : Nat → Bool} : ∀ {ts : List TypeId} {vs : List Value} {ds : List (DataW H)} {ps : List MemPlace},
    (∀ t ∈ ts, P.readableRec t = true ∧ t < P.types.size) → DataW.TrodAll enc P W 0 (fun _ => true) true ts vs ds ps → (∀ p ∈ ps, p.block < W.heap.size ∧ sp p.block = true) → DataW.TrodAll enc P W' 0 sp true ts vs ds ps
  | [], [], [], ps, _, h, _ => h
  | t :: ts, v :: vs, d :: ds, ps, hts, h, hps => by
    obtain ⟨p, q, h1, h2, rfl⟩ := h
    have ht := hts t (by simp)
    refine ⟨p, q, WideElems.Trod_stays hl ht.1 ht.2 h1 (fun x hx => hb.same (hps x (by simp [hx])).1) (fun x hx => (hps x (by simp [hx])).2), ?_, rfl⟩
    exact trodAll_below hl hb (fun t ht => hts t (by simp [ht])) h2 (fun x hx => hps x (by simp [hx]))
  | [], _ :: _, _, _, _, h, _ => h.elim
  | [], [], _ :: _, _, _, h, _ => h.elim
  | _ :: _, [], _, _, _, h, _ => h.elim
  | _ :: _, _ :: _, [], _, _, h, _ => h.elim

/-- A law's row: it returns true; each argument reads behind the call as before. -/
theorem post_of_law {H : Type} {enc : TypeId × Value → H} {f : Func} {s : ChangeSpec} {apart fresh handsOn again : Bool} {W W' : World} {args : Array Value} {ds gs : List (DataW H)} {before : List MemPlace} {tb : TypeId}
    (hl : laidOutB P = true) (hts : ∀ t ∈ f.params.toList, P.readableRec t = true ∧ t < P.types.size) (hvars : s.vars = []) (hres : f.resultTypes = #[tb]) (htb : P.underlying tb = some .bool)
    (hspec : s.fn H ds = { results := [.lit (.bool true)], args := ds })
    (hW : DataW.Whole enc P f.params.toList s.vars apart W args.toList ds gs before) (hb : Below W.heap.size W W') : s.post enc P f apart fresh handsOn again W args (.bool true) W' := by
  have hW0 := hW
  have hlt := hW.lt
  obtain ⟨p, q, hA, hV, rfl, hfz, hnd⟩ := hW
  rw [hvars] at hV
  obtain ⟨rfl, rfl⟩ := trodVars_none hV
  have hold : ∀ x ∈ p ++ [], x.block < W.heap.size := hlt
  have hs : s.fn H (ds ++ []) = { results := [.lit (.bool true)], args := ds } := by rw [List.append_nil]; exact hspec
  have hargs : ∀ sp : Nat → Bool, (∀ x ∈ p ++ [], sp x.block = true) → DataW.TrodAll enc P W' 0 sp true f.params.toList args.toList (s.fn H (ds ++ [])).args p := fun sp hsp => by
    rw [hs]; exact trodAll_below hl hb hts hA fun x hx => ⟨hold x (by simp [hx]), hsp x (by simp [hx])⟩
  have hr1 : ∀ (b : Nat) (sp : Nat → Bool) (hd : Bool), DataW.TrodAll enc P W' b sp hd f.resultTypes.toList ((Value.bool true).resultList f.resultTypes.size) (s.fn H (ds ++ [])).results [] := fun b sp hd => by
    rw [hres, hs]; exact trodAll_mk1 (shut_bool htb true)
  have hv0 : ∀ sp : Nat → Bool, DataW.TrodVars enc P W' sp s.vars (s.fn H (ds ++ [])).vars [] := fun sp => by rw [hvars, hs]; rfl
  refine ⟨ds, [], p ++ [], [], p, [], hW0, hr1 _ _ _, hargs _ (fun x hx => by simpa using hold x hx), hv0 _, World.keptBut_mono (fun x hx => ⟨hx, ?_⟩) (hb.frame _), fun _ => ?_⟩
  · exact Or.inr (by simpa using hx)
  · refine ⟨?_, _, _, ([] ++ p) ++ [], ⟨[] ++ p, [], trodAll_append (hargs _ (fun _ _ => rfl)) (hr1 _ _ _), hv0 _, rfl, ?_, ?_⟩, ?_⟩
    · exact ok_one hres rfl (okWide_bool_mk htb true)
    · intro b off hp
      have hx : MemPlace.cell b off ∈ p ++ [] := by simpa using hp
      rw [hb.frozen (hold _ hx)]
      exact hfz b off hx
    · intro ha
      have := hnd ha
      simpa using this
    · intro x hx _
      simpa using hx

/-- The whole of it, for a law of whatever arguments. -/
theorem lifted_of_pure {C : Checked} {H : Type} {enc : TypeId × Value → H} {os : Os} {f : FuncId} {fn : Func} {s : ChangeSpec} {conds : List PathCond} {apart fresh handsOn again : Bool} {tb : TypeId} {n : Nat}
    (own : ownKnob C.prog.godebug = none) (started : os.Started) (noInit : C.prog.inits.idxOf? f = none) (hfn : C.prog.funcs[f]? = some fn)
    (witness : ∃ (w : World) (tape : Tape) (i : Input), w.os = os ∧ (w.forCall tape i).Shaped C.prog ∧ i.vars = [] ∧ Input.okWide C.prog (w.forCall tape i) .any w.heap.size f i ∧
      s.pre6 enc C.prog fn conds apart (w.forCall tape i).memory i.args ∧ ({} : Assume).holds C.prog (lone (Frame.enter C.prog f i.args .normal) [] (w.forCall tape i)))
    (hl : laidOutB C.prog = true) (hts : ∀ t ∈ fn.params.toList, C.prog.readableRec t = true ∧ t < C.prog.types.size) (hvars : s.vars = []) (hres : fn.resultTypes = #[tb]) (htb : C.prog.underlying tb = some .bool)
    (hspec : ∀ ds : List (DataW H), ds.length = fn.params.toList.length → s.fn H ds = { results := [.lit (.bool true)], args := ds })
    (walk : ∀ (W : World) (base : Nat) (args : Array Value) (ds : List (DataW H)) (ps : List MemPlace), (∀ (j : Nat) t v, fn.params[j]? = some t → args[j]? = some v → Value.okWide C.prog W .any base t v) →
      DataW.TrodAll enc C.prog W 0 (fun _ => true) true fn.params.toList args.toList ds ps → ∃ avs, VRs noNames (memOf W) avs args.toList ∧ Pure C.prog f avs (.bool true)) :
    ReturnsInHanded {} C os f .any (s.pre6 enc C.prog fn conds apart) (s.post enc C.prog fn apart fresh handsOn again) := by
  refine returnsInHanded_of_change own started noInit hfn witness ?_
  intro W base args ds gs before hval hW hcnd _
  have hlen : ds.length = fn.params.toList.length := by
    obtain ⟨p, q, hA, _⟩ := hW
    exact len hA
  obtain ⟨p, q, hA, hV, rfl, hfz, hnd⟩ := id hW
  obtain ⟨avs, hv, hp⟩ := walk W base args ds p hval hA
  have := hp.calls hv
  rw [Array.toArray_toList] at this
  refine this.mono ?_
  rintro e W' ⟨⟨ρ, M, x, rfl, hx⟩, hb⟩
  cases hx
  exact ⟨_, rfl, post_of_law hl hts hvars hres htb (hspec ds hlen) hW hb⟩
where
  len {H : Type} {enc : TypeId × Value → H} {P : Program} {W : World} : ∀ {ts : List TypeId} {vs : List Value} {ds : List (DataW H)} {ps : List MemPlace}, DataW.TrodAll enc P W 0 (fun _ => true) true ts vs ds ps → ds.length = ts.length
    | [], [], [], _, _ => rfl
    | _ :: _, _ :: _, _ :: _, _, h => by obtain ⟨_, _, _, h2, _⟩ := h; simp [len h2]
    | [], _ :: _, _, _, h => h.elim
    | [], [], _ :: _, _, h => h.elim
    | _ :: _, [], _, _, h => h.elim
    | _ :: _, _ :: _, [], _, h => h.elim
end
end Go.Abs

/- Slices that grow, in a walk. -/
set_option linter.unusedVariables false
set_option linter.unusedSimpArgs false
namespace Go.Abs
variable {P : Program}
/-- A slice that grows: none: nothing yet; some m: the token m stands for the room behind it. -/
def gv (k : Nat) (c : Option Nm) (es : List (List AV)) : AV := match c with
  | none => .sl k [] .exact
  | some m => .sl k es (.tok m)
/-- The store with its token. -/
def gs (σ : Store) (c : Option Nm) : Store := match c with
  | none => σ
  | some m => σ.up m .tok
/-- .. without. -/
def gdel (σ : Store) (c : Option Nm) : Store := match c with
  | none => σ
  | some m => σ.del m
/-- What is known of such a slice: its token is the walk's own, and new to the store. -/
def gok (ns : Nm) (σ : Store) (c : Option Nm) (es : List (List AV)) : Prop := match c with
  | none => es = []
  | some m => m.under ns = true ∧ σ m = none
def GNil (c : Option Nm) (es : List (List AV)) : Prop := c = none → es = []
theorem gv_none {k : Nat} {es : List (List AV)} : gv k none es = .sl k [] .exact := rfl
theorem AVle.nilExact {k sz : Nat} : AVle (.sl sz [] .nil) (.sl k [] .exact) := fun ρ M x h => by
  cases h with
  | slnil h => exact .slnil (.inr (.inl rfl))
  | slz a h => exact .slz a (.inr rfl)
  | sl h1 h2 h3 h4 h5 h6 => exact absurd rfl h3.2
instance AVLe.nilExact {k sz : Nat} : AVLe (.sl sz [] .nil) (.sl k [] .exact) := ⟨.nilExact⟩
instance AVLe.gvUnk {k : Nat} {m : Nm} {es : List (List AV)} : AVLe (gv k (some m) es) (.sl k es .unk) := ⟨.unk⟩
theorem gv_some {k : Nat} {m : Nm} {es : List (List AV)} : gv k (some m) es = .sl k es (.tok m) := rfl
@[simp] theorem cells?_gv {k : Nat} {c : Option Nm} {es : List (List AV)} : AV.cells? (gv k c es) = some [gv k c es] := by cases c <;> rfl
@[simp] theorem one_gv {k : Nat} {c : Option Nm} {es : List (List AV)} : AV.one (gv k c es) = true := by cases c <;> rfl
theorem gs_none {σ : Store} : gs σ none = σ := rfl
theorem gs_some {σ : Store} {m : Nm} : gs σ (some m) = σ.up m .tok := rfl
theorem gs_get {σ : Store} {c : Option Nm} {x : Nm} (h : ¬ c = some x) : gs σ c x = σ x := by
  cases c with
  | none => rfl
  | some m => rw [gs_some, Store.up_get, if_neg (fun e => h (by rw [e]))]
theorem gs_tok {σ : Store} {c : Option Nm} {x : Nm} (h : c = some x) : gs σ c x = some .tok := by subst h; simp [gs]
theorem gdel_get {σ : Store} {c : Option Nm} {x : Nm} (h : ¬ c = some x) : gdel σ c x = σ x := by
  cases c with
  | none => rfl
  | some m => simp only [gdel, Store.del]; rw [if_neg (fun e => h (by rw [e]))]
theorem gdel_tok {σ : Store} {c : Option Nm} {x : Nm} (h : c = some x) : gdel σ c x = none := by subst h; simp [gdel, Store.del]
section
variable {ns : Nm} {σ : Store} {c : Option Nm} {es : List (List AV)}
theorem gok.ne (h : gok ns σ c es) {x : Nm} (hx : ¬ σ x = none) : ¬ c = some x := by
  rintro rfl; exact hx h.2
theorem gok.ne_out (h : gok ns σ c es) {x : Nm} (hx : x.under ns = false) : ¬ c = some x := by
  rintro rfl; rw [h.1] at hx; cases hx
theorem gok.nil (h : gok ns σ c es) : c = none → es = [] := by rintro rfl; exact h
theorem gok.le (h : gok ns σ c es) {k : Nat} : AVle (gv k c es) (.sl k es .unk) := by
  cases c with
  | none => cases h; exact .unk
  | some m => exact .unk
theorem gok.len (h : gok ns σ c es) {k : Nat} {ts : Array TypeId} : abuiltin P .len ts [gv k c es] = abuiltin P .len ts [.sl k es .unk] := by
  cases c with
  | none => cases h; rfl
  | some m => rfl
@[simp] theorem abuiltin_len_gv {k : Nat} {ts : Array TypeId} (h : GNil c es) : abuiltin P .len ts [gv k c es] = if (tyElem P (ts.getD 0 0)).isSome = true ∧ 0 < ts.size then some (.int .i64 es.length) else none := by
  cases c with
  | none => rw [h rfl]; rfl
  | some m => rfl
/-- Round's names are new: so none is the token. -/
theorem gs_new {r : Nm} (h : ∀ n, n.under r = true → gs σ c n = none) : ∀ n, n.under r = true → ¬ c = some n := by
  rintro n hn rfl; have := h n hn; rw [gs_tok rfl] at this; cases this
theorem gs_new' {r : Nm} (h : ∀ n, n.under r = true → gs σ c n = none) : ∀ n, n.under r = true → σ n = none := fun n hn => by
  have := h n hn; rwa [gs_get (gs_new h n hn)] at this
end
/-- The token is in the store. -/
def TokAt (σ : Store) (c : Option Nm) : Prop := ∀ m, c = some m → σ m = some .tok
@[simp] theorem tokAt_none {σ : Store} : TokAt σ none := fun m h => by cases h
@[simp] theorem tokAt_some {σ : Store} {m : Nm} : TokAt σ (some m) = (σ m = some .tok) := propext ⟨fun h => h m rfl, fun h n e => by cases e; exact h⟩
@[simp] theorem tokAt_gs {σ : Store} {c : Option Nm} : TokAt (gs σ c) c := fun m h => gs_tok h
@[simp] theorem tokAt_up {σ : Store} {c : Option Nm} {x : Nm} {o : AObj} (h : ¬ c = some x) : TokAt (σ.up x o) c = TokAt σ c := propext
  ⟨fun g m e => by have := g m e; rwa [Store.up_get, if_neg (fun e' => h (by rw [e, e']))] at this, fun g m e => by rw [Store.up_get, if_neg (fun e' => h (by rw [e, e']))]; exact g m e⟩
theorem gok.gnil {ns : Nm} {σ : Store} {c : Option Nm} {es : List (List AV)} (h : gok ns σ c es) : GNil c es := by rintro rfl; exact h
attribute [simp] gs_get gdel_get

def aappend0 (P : Program) (n : Nm) (σ : Store) (ts : Array TypeId) (s x : AV) : Option (AV × Store) := aappend P n σ ts s x
/-- An append to it. -/
@[simp high] theorem aappend_gv {n : Nm} {σ : Store} {ts : Array TypeId} {k : Nat} {c : Option Nm} {es : List (List AV)} {sz' : Nat} {es' : List (List AV)} {c' : Cap} (hu : TokAt σ c) (hn : GNil c es) :
    aappend P n σ ts (gv k c es) (.sl sz' es' c') = match tyElem P (ts.getD 0 0), tyElem P (ts.getD 1 0) with
      | some e, some _ => match tySize P e, tyBytes P e, tyZero P e with
        | some k', some b, some z =>
          if k' = k ∧ ts.size = 2 ∧ 0 < k' ∧ 0 < b ∧ z.length = k' ∧ (es'.isEmpty = true ∨ sz' = k') ∧ (es.length + es'.length) * b ≤ 140737488355328 ∧ es'.all (fun e => e.all AV.one) = true then
            if es'.isEmpty = true then some (gv k c es, σ) else some (gv k (some n) (es ++ es'), (gdel σ c).up n .tok)
          else aappend0 P n σ ts (gv k c es) (.sl sz' es' c')
        | _, _, _ => aappend0 P n σ ts (gv k c es) (.sl sz' es' c')
      | _, _ => aappend0 P n σ ts (gv k c es) (.sl sz' es' c') := by
  cases he : tyElem P (ts.getD 0 0) with
  | none => rfl
  | some e =>
    cases he' : tyElem P (ts.getD 1 0) with
    | none => rfl
    | some e' =>
      simp only
      cases hk : tySize P e with
      | none => rfl
      | some k' =>
        cases hb : tyBytes P e with
        | none => rfl
        | some b =>
          cases hz : tyZero P e with
          | none => rfl
          | some z =>
            simp only
            split
            · rename_i h
              obtain ⟨rfl, h1, h2, h3, h4, h5, h6, h7⟩ := h
              cases c with
              | none =>
                obtain rfl := hn rfl
                unfold aappend
                simp only [gv_none, he, he', hk, hb, hz]
                rw [if_pos ⟨h1, h2, h3, h4, .inl rfl, h5, h6⟩]
                split
                · rfl
                · rfl
              | some m =>
                have hm := hu m rfl
                unfold aappend
                simp only [gv_some, he, he', hk, hb, hz]
                rw [if_pos ⟨h1, h2, h3, h4, .inr trivial, h5, h6⟩]
                split
                · rfl
                · simp only [hm]
                  rw [if_pos ⟨trivial, h7⟩]
                  rfl
            · rfl
/-- The token of a slice that is laid anew. -/
def gnew (es : List (List AV)) (n : Nm) : Option Nm := if es.isEmpty = true then none else some n
theorem gnew_ok {ns n : Nm} {σ : Store} {es : List (List AV)} (h1 : n.under ns = true) (h2 : σ n = none) : gok ns σ (gnew es n) es := by
  unfold gnew
  split
  · rename_i h; simpa [gok] using h
  · exact ⟨h1, h2⟩
theorem gs_gnew {σ : Store} {es : List (List AV)} {n : Nm} : gs σ (gnew es n) = if es.isEmpty = true then σ else σ.up n .tok := by unfold gnew; split <;> rfl
/-- An append to a slice without room. -/
theorem aappend_new {n : Nm} {σ : Store} {ts : Array TypeId} {k : Nat} {sz' : Nat} {es' : List (List AV)} {c' : Cap} :
    aappend P n σ ts (.sl k [] .exact) (.sl sz' es' c') = match tyElem P (ts.getD 0 0), tyElem P (ts.getD 1 0) with
      | some e, some _ => match tySize P e, tyBytes P e, tyZero P e with
        | some k', some b, some z =>
          if ts.size = 2 ∧ 0 < k' ∧ 0 < b ∧ z.length = k' ∧ k' = k ∧ (es'.isEmpty = true ∨ sz' = k') ∧ es'.length * b ≤ 140737488355328 then some (gv k (gnew es' n) es', gs σ (gnew es' n)) else aappend0 P n σ ts (.sl k [] .exact) (.sl sz' es' c')
        | _, _, _ => aappend0 P n σ ts (.sl k [] .exact) (.sl sz' es' c')
      | _, _ => aappend0 P n σ ts (.sl k [] .exact) (.sl sz' es' c') := by
  cases he : tyElem P (ts.getD 0 0) with
  | none => rfl
  | some e =>
    cases he' : tyElem P (ts.getD 1 0) with
    | none => rfl
    | some e' =>
      simp only
      cases hk : tySize P e with
      | none => rfl
      | some k' =>
        cases hb : tyBytes P e with
        | none => rfl
        | some b =>
          cases hz : tyZero P e with
          | none => rfl
          | some z =>
            simp only
            split
            · rename_i h
              obtain ⟨h1, h2, h3, h4, rfl, h5, h6⟩ := h
              unfold aappend
              simp only [he, he', hk, hb, hz]
              rw [if_pos ⟨h1, h2, h3, h4, .inl rfl, h5, by simpa using h6⟩]
              unfold gnew
              split <;> rename_i hh
              · have : es' = [] := by simpa using hh
                subst this; rfl
              · rfl
            · rfl
@[simp] theorem fold_new {k : Nat} {es : List (List AV)} {n : Nm} {σ : Store} [Decidable (es = [])] : (if es = [] then some (AV.sl k [] .exact, σ) else some (.sl k es (.tok n), σ.up n .tok)) = some (gv k (gnew es n) es, gs σ (gnew es n)) := by
  by_cases h : es = []
  · subst h; simp [gnew, gv, gs]
  · rw [if_neg h, show gnew es n = some n from if_neg (by simpa using h)]; rfl
/-- A loop in which a slice grows, over a store that turns. -/
theorem wpc_loopGB {pl : List (Nat × Plan)} {α : Type} {cd : Code} {Q : AExit → AS → Prop} (U : α → List (Nat × AV)) (B : α → Store) (C : α → Option Nm) (es : α → List (List AV)) (μ : α → Nat) (Good : α → Prop) (a0 : α) {tm : List AV} {st : Store} (ns0 : Nm) {ns : Nm} {c : Nat} {dfs : List ADf} {F : Fre}
    (hk : gok ns0 (B a0) (C a0) (es a0)) (hg : Good a0) (ht : AVsle tm (setL tm (U a0))) (hs : StWk st (gs (B a0) (C a0)))
    (h : ∀ a k, Good a → gok ns0 (B a) (C a) (es a) → (∀ x, x.under ((ns.sub c).sub k) = true → B a x = none) → (∀ x, x.under ((ns.sub c).sub k) = true ∨ ¬ B a x = none → ¬ C a = some x) →
      wpc P pl cd (loopG (fun a => ⟨setL tm (U a), gs (B a) (C a), ns, c, dfs, F⟩) μ (fun a => Good a ∧ gok ns0 (B a) (C a) (es a)) ns c k a Q) ⟨setL tm (U a), gs (B a) (C a), (ns.sub c).sub k, 0, dfs, F⟩) : wpc P pl (.loop cd) Q ⟨tm, st, ns, c, dfs, F⟩ := by
  refine wpc_loopN U (fun a => gs (B a) (C a)) μ (fun a => Good a ∧ gok ns0 (B a) (C a) (es a)) a0 ⟨hg, hk⟩ ht hs ?_
  rintro a k ⟨ha, hok⟩ hn
  refine h a k ha hok (gs_new' hn) fun x hx => ?_
  rcases hx with hx | hx
  · exact gs_new hn x hx
  · exact hok.ne hx
theorem gok_some {ns n : Nm} {σ : Store} {es : List (List AV)} (h1 : n.under ns = true) (h2 : σ n = none) : gok ns σ (some n) es := ⟨h1, h2⟩
/-- A loop in which a slice grows. C: its token; es: what it holds. -/
theorem wpc_loopGr {pl : List (Nat × Plan)} {α : Type} {cd : Code} {Q : AExit → AS → Prop} (U : α → List (Nat × AV)) (C : α → Option Nm) (es : α → List (List AV)) (μ : α → Nat) (Good : α → Prop) (a0 : α) {tm : List AV} {st : Store} {ns : Nm} {c : Nat} {dfs : List ADf} {F : Fre}
    (hc : C a0 = none) (he : es a0 = []) (hg : Good a0) (ht : AVsle tm (setL tm (U a0)))
    (h : ∀ a k, Good a → gok ns st (C a) (es a) → (∀ x, x.under ((ns.sub c).sub k) = true → st x = none) → (∀ x, x.under ((ns.sub c).sub k) = true ∨ ¬ st x = none → ¬ C a = some x) →
      wpc P pl cd (loopG (fun a => ⟨setL tm (U a), gs st (C a), ns, c, dfs, F⟩) μ (fun a => Good a ∧ gok ns st (C a) (es a)) ns c k a Q) ⟨setL tm (U a), gs st (C a), (ns.sub c).sub k, 0, dfs, F⟩) : wpc P pl (.loop cd) Q ⟨tm, st, ns, c, dfs, F⟩ := by
  refine wpc_loopN U (fun a => gs st (C a)) μ (fun a => Good a ∧ gok ns st (C a) (es a)) a0 ⟨hg, ?_⟩ ht ?_ ?_
  · rw [hc, he]; rfl
  · rw [hc]; exact .refl _
  · rintro a k ⟨ha, hok⟩ hn
    refine h a k ha hok (gs_new' hn) fun x hx => ?_
    rcases hx with hx | hx
    · exact gs_new hn x hx
    · exact hok.ne hx
/-- .. that had grown before. -/
theorem wpc_loopGr' {pl : List (Nat × Plan)} {α : Type} {cd : Code} {Q : AExit → AS → Prop} (U : α → List (Nat × AV)) (C : α → Option Nm) (es : α → List (List AV)) (μ : α → Nat) (Good : α → Prop) (a0 : α) {tm : List AV} {st : Store} {ns0 ns : Nm} {c : Nat} {dfs : List ADf} {F : Fre} {c0 : Option Nm}
    (hc : C a0 = c0) (he : gok ns0 st c0 (es a0)) (hg : Good a0) (ht : AVsle tm (setL tm (U a0)))
    (h : ∀ a k, Good a → gok ns0 st (C a) (es a) → (∀ x, x.under ((ns.sub c).sub k) = true → st x = none) → (∀ x, x.under ((ns.sub c).sub k) = true ∨ ¬ st x = none → ¬ C a = some x) →
      wpc P pl cd (loopG (fun a => ⟨setL tm (U a), gs st (C a), ns, c, dfs, F⟩) μ (fun a => Good a ∧ gok ns0 st (C a) (es a)) ns c k a Q) ⟨setL tm (U a), gs st (C a), (ns.sub c).sub k, 0, dfs, F⟩) : wpc P pl (.loop cd) Q ⟨tm, gs st c0, ns, c, dfs, F⟩ := by
  refine wpc_loopN U (fun a => gs st (C a)) μ (fun a => Good a ∧ gok ns0 st (C a) (es a)) a0 ⟨hg, ?_⟩ ht ?_ ?_
  · rw [hc]; exact he
  · rw [hc]; exact .refl _
  · rintro a k ⟨ha, hok⟩ hn
    refine h a k ha hok (gs_new' hn) fun x hx => ?_
    rcases hx with hx | hx
    · exact gs_new hn x hx
    · exact hok.ne hx
/-! What is told at a round's end, step by step. -/
theorem StWk.up {u v : Store} {n : Nm} {o o' : AObj} (h : StWk u v) (hu : u n = some o') (hw : VarWk o' o) : StWk u (v.up n o) := fun m p hp => by
  rw [Store.up_get] at hp
  split at hp
  · rename_i e; subst e; injection hp with hp; subst hp; exact ⟨o', hu, hw⟩
  · exact h m p hp
theorem StWk.up_same {u v : Store} {n : Nm} {o : AObj} (h : StWk u v) (hu : u n = some o) : StWk u (v.up n o) := h.up hu (.inl rfl)
theorem StWk.up_var {u v : Store} {n : Nm} {cs cs' : List AV} (h : StWk u v) (hu : u n = some (.var cs)) (hw : AVsle cs cs') : StWk u (v.up n (.var cs')) := h.up hu (.inr ⟨_, _, rfl, rfl, hw⟩)
theorem StWk.grow {u v : Store} {c : Option Nm} (h : StWk u v) (hc : ∀ m, c = some m → u m = some .tok) : StWk u (gs v c) := by
  cases c with
  | none => exact h
  | some m => exact h.up_same (hc m rfl)
theorem StWk.own_up {u v : Store} {n : Nm} {o : AObj} (h : StWk u v) (hn : v n = none) : StWk (u.up n o) v := fun m p hp => by
  obtain ⟨o', h1, h2⟩ := h m p hp
  exact ⟨o', by rw [Store.up_get, if_neg (fun e => by subst e; rw [hn] at hp; cases hp)]; exact h1, h2⟩
theorem StWk.own_del {u v : Store} {n : Nm} (h : StWk u v) (hn : v n = none) : StWk (u.del n) v := fun m p hp => by
  obtain ⟨o', h1, h2⟩ := h m p hp
  exact ⟨o', by unfold Store.del; rw [if_neg (fun e => by subst e; rw [hn] at hp; cases hp)]; exact h1, h2⟩
theorem StWk.own_gdel {u v : Store} {c : Option Nm} (h : StWk u v) (hn : ∀ m, c = some m → v m = none) : StWk (gdel u c) v := by
  cases c with
  | none => exact h
  | some m => exact h.own_del (hn m rfl)
theorem StWk.own_gs {u v : Store} {c : Option Nm} (h : StWk u v) (hn : ∀ m, c = some m → v m = none) : StWk (gs u c) v := by
  cases c with
  | none => exact h
  | some m => exact h.own_up (hn m rfl)
/-- The base: the walk's own names are new to it. -/
theorem StWk.base {ns : Nm} {σ u : Store} (hσ : ∀ n, n.under ns = true → σ n = none) (h : ∀ x, x.under ns = false → u x = σ x) : StWk u σ := fun x o hx => by
  cases hu : x.under ns with
  | true => rw [hσ x hu] at hx; cases hx
  | false => exact ⟨o, by rw [h x hu]; exact hx, .inl rfl⟩
theorem gs_other {σ : Store} {c : Option Nm} {m ns : Nm} (h : ∀ n, c = some n → n.under ns = true) (hm : m.under ns = false) : gs σ c m = σ m := gs_get fun e => by rw [h m e] at hm; cases hm
theorem gdel_other {σ : Store} {c : Option Nm} {m ns : Nm} (h : ∀ n, c = some n → n.under ns = true) (hm : m.under ns = false) : gdel σ c m = σ m := gdel_get fun e => by rw [h m e] at hm; cases hm
theorem gok.own {ns : Nm} {σ : Store} {c : Option Nm} {es : List (List AV)} (h : gok ns σ c es) : ∀ n, c = some n → n.under ns = true := by rintro n rfl; exact h.1
theorem gok.fresh {ns : Nm} {σ : Store} {c : Option Nm} {es : List (List AV)} (h : gok ns σ c es) : ∀ n, c = some n → σ n = none := by rintro n rfl; exact h.2
theorem restoreS_gs {ns : Nm} {σ τ : Store} {c : Option Nm} (h : ∀ n, c = some n → n.under ns = true) : restoreS ns [] σ (gs τ c) = restoreS ns [] σ τ := by
  cases c with
  | none => rfl
  | some m => exact restoreS_up_own (h m rfl)
theorem restoreS_del_own {ns n : Nm} {σ τ : Store} (h : n.under ns = true) : restoreS ns [] σ (τ.del n) = restoreS ns [] σ τ := by
  funext x
  simp only [restoreS, Store.del]
  by_cases e : x = n
  · subst e; simp [h]
  · simp [e]
theorem restoreS_gdel {ns : Nm} {σ τ : Store} {c : Option Nm} (h : ∀ n, c = some n → n.under ns = true) : restoreS ns [] σ (gdel τ c) = restoreS ns [] σ τ := by
  cases c with
  | none => rfl
  | some m => exact restoreS_del_own (h m rfl)
theorem endA_gen {v v' : AV} {τ σ σ' : Store} {ns : Nm} {R : AEnd → Store → Prop} (hl : AVle v v') (hw : StWeak ns σ τ σ') (hr : R (.ret v') σ') : endA (some v) τ [] σ ns R := ⟨rfl, v, rfl, v', σ', hl, hw, hr⟩
theorem endA_weak {v v' : AV} {τ σ : Store} {ns : Nm} (hl : AVle v v') (hw : StWeak ns σ τ σ) : endA (some v) τ [] σ ns (fun e σ' => e = .ret v' ∧ σ' = σ) := ⟨rfl, v, rfl, v', σ, hl, hw, rfl, rfl⟩
theorem gok.into {ns ns' : Nm} {σ : Store} {c : Option Nm} {es : List (List AV)} (h : gok ns' σ c es) (hn : ns'.under ns = true) : gok ns σ c es := by
  cases c with
  | none => exact h
  | some m => exact ⟨Nm.under_trans h.1 hn, h.2⟩
theorem StWk.both {u v : Store} {n : Nm} {o' o : AObj} (h : StWk u v) (hw : VarWk o' o) : StWk (u.up n o') (v.up n o) := fun m p hp => by
  rw [Store.up_get] at hp ⊢
  split at hp
  · rename_i e; injection hp with hp; subst hp; exact ⟨o', by rw [if_pos e], hw⟩
  · rename_i e; rw [if_neg e]; exact h m p hp
/-- A variable of a caller's has turned, and the walk's own. -/
theorem StWk.over {ns : Nm} {σ u : Store} {n : Nm} {o' o : AObj} (hσ : ∀ m, m.under ns = true → σ m = none) (h : ∀ m, m.under ns = false → ¬ m = n → u m = σ m) (hw : VarWk o' o) : StWk (u.up n o') (σ.up n o) := fun m p hp => by
  rw [Store.up_get] at hp ⊢
  split at hp
  · rename_i e; injection hp with hp; subst hp; exact ⟨o', by rw [if_pos e], hw⟩
  · rename_i e
    rw [if_neg e]
    cases hm : m.under ns with
    | true => rw [hσ m hm] at hp; cases hp
    | false => exact ⟨p, by rw [h m hm e]; exact hp, .inl rfl⟩
/-- A loop that turns one variable. -/
theorem wpc_loopV {pl : List (Nat × Plan)} {α : Type} {cd : Code} {Q : AExit → AS → Prop} (U : α → List (Nat × AV)) (n : Nm) (cs : α → List AV) (μ : α → Nat) (Good : α → Prop) (a0 : α) {tm : List AV} {st : Store} {ns : Nm} {c : Nat} {dfs : List ADf} {F : Fre}
    (hg : Good a0) (ht : AVsle tm (setL tm (U a0))) (h0 : st n = some (.var (cs a0)))
    (h : ∀ a k, Good a → (∀ x, x.under ((ns.sub c).sub k) = true → st x = none) → wpc P pl cd (loopG (fun a => ⟨setL tm (U a), st.up n (.var (cs a)), ns, c, dfs, F⟩) μ Good ns c k a Q) ⟨setL tm (U a), st.up n (.var (cs a)), (ns.sub c).sub k, 0, dfs, F⟩) : wpc P pl (.loop cd) Q ⟨tm, st, ns, c, dfs, F⟩ := by
  refine wpc_loopN U (fun a => st.up n (.var (cs a))) μ Good a0 hg ht (StWk.up_same (.refl _) h0) fun a k ha hn => h a k ha fun x hx => ?_
  have := hn x hx
  rw [Store.up_get] at this
  split at this
  · cases this
  · exact this
/-- A variable has turned in a round. -/
theorem StWk.turn {r n : Nm} {st u : Store} {o : AObj} (hfr : ∀ x, x.under r = true → st x = none) (hu : u n = some o) (h : ∀ m, m.under r = false → ¬ m = n → u m = st m) : StWk u (st.up n o) := fun m p hp => by
  rw [Store.up_get] at hp
  split at hp
  · rename_i e; subst e; injection hp with hp; subst hp; exact ⟨_, hu, .inl rfl⟩
  · rename_i e
    cases hm : m.under r with
    | true => rw [hfr m hm] at hp; cases hp
    | false => exact ⟨p, by rw [h m hm e]; exact hp, .inl rfl⟩
end Go.Abs

/- Rows that are not stored into any more: their elements by value. And: walks whose names bear a mark. -/
set_option linter.unusedVariables false
set_option linter.unusedSimpArgs false
namespace Go.Abs
section
variable {P : Program}

/-- What a value has become when the variable m, with the cells cs, is not stored into any more. -/
inductive Frz (m : Nm) (cs : List AV) : AV → AV → Prop
  | refl (v : AV) : Frz m cs v v
  | slv {sz len : Nat} {es : List (List AV)} (hl : es.length = len) (hs : ∀ e, e ∈ es → e.length = sz) (hf : es.flatten = cs.take (len * sz)) (hc : len * sz ≤ cs.length) : Frz m cs (.slv m sz len) (.sl sz es .unk)
  | agg {l l' : List AV} (hl : l.length = l'.length) (h : ∀ (i : Nat) (v v' : AV), l[i]? = some v → l'[i]? = some v' → Frz m cs v v') : Frz m cs (.agg l) (.agg l')
  | tup {l l' : List AV} (hl : l.length = l'.length) (h : ∀ (i : Nat) (v v' : AV), l[i]? = some v → l'[i]? = some v' → Frz m cs v v') : Frz m cs (.tup l) (.tup l')
def Frzs (m : Nm) (cs : List AV) (l l' : List AV) : Prop := l.length = l'.length ∧ ∀ (i : Nat) (v v' : AV), l[i]? = some v → l'[i]? = some v' → Frz m cs v v'
theorem Frzs.refl {m : Nm} {cs : List AV} (l : List AV) : Frzs m cs l l := ⟨rfl, fun i v v' h h' => by rw [h] at h'; injection h' with h'; subst h'; exact .refl v⟩
theorem Frzs.nil {m : Nm} {cs : List AV} : Frzs m cs [] [] := .refl []
theorem Frzs.cons {m : Nm} {cs : List AV} {v v' : AV} {l l' : List AV} (h : Frz m cs v v') (hs : Frzs m cs l l') : Frzs m cs (v :: l) (v' :: l') :=
  ⟨by simp [hs.1], fun i u u' hu hu' => by
    cases i with
    | zero => simp at hu hu'; subst hu; subst hu'; exact h
    | succ i => simp at hu hu'; exact hs.2 i u u' hu hu'⟩
theorem Frzs.set {m : Nm} {cs : List AV} {v v' : AV} {l : List AV} (k : Nat) (h : Frz m cs v v') : Frzs m cs (l.set k v) (l.set k v') :=
  ⟨by simp, fun i u u' hu hu' => by
    rw [List.getElem?_set] at hu hu'
    by_cases hi : k = i
    · rw [if_pos hi] at hu hu'
      split at hu
      · rename_i hlt
        rw [if_pos hlt] at hu'
        injection hu with hu; injection hu' with hu'; subst hu; subst hu'; exact h
      · cases hu
    · rw [if_neg hi] at hu hu'
      rw [hu] at hu'; injection hu' with hu'; subst hu'; exact .refl u⟩
/-- .. a store. -/
structure FrzS (m : Nm) (cs : List AV) (σ σ' : Store) : Prop where
  gone : σ' m = none
  get : ∀ n o', σ' n = some o' → ∃ o, σ n = some o ∧ (o = o' ∨ ∃ l l', o = .var l ∧ o' = .var l' ∧ Frzs m cs l l')
theorem FrzS.del {m : Nm} {cs : List AV} (σ : Store) : FrzS m cs σ (σ.del m) :=
  ⟨by simp [Store.del], fun n o' h => by
    unfold Store.del at h
    split at h
    · cases h
    · exact ⟨o', h, .inl rfl⟩⟩
theorem FrzS.own {m : Nm} {cs cs' : List AV} {σ : Store} (h : σ m = none) : FrzS m cs (σ.up m (.var cs')) σ :=
  ⟨h, fun n o' hn => ⟨o', by
    rw [Store.up_get]
    split
    · rename_i e; subst e; rw [h] at hn; cases hn
    · exact hn, .inl rfl⟩⟩
theorem FrzS.up {m n : Nm} {cs l l' : List AV} {σ σ' : Store} (h : FrzS m cs σ σ') (hne : n ≠ m) (hs : Frzs m cs l l') : FrzS m cs (σ.up n (.var l)) (σ'.up n (.var l')) :=
  ⟨by rw [Store.up_get, if_neg (fun e => hne e.symm)]; exact h.gone, fun k o' hk => by
    rw [Store.up_get] at hk ⊢
    split at hk
    · rename_i e
      injection hk with hk; subst hk
      exact ⟨_, by rw [if_pos e], .inr ⟨l, l', rfl, rfl, hs⟩⟩
    · rename_i e
      rw [if_neg e]; exact h.get k o' hk⟩

theorem Frz.vr {ρ : Names} {M M' : Mem} {m : Nm} {cs : List AV} {p : Pl} {xs : List Value} (hg : Grows ρ M ρ M') (hp : ρ m = some p) (h0 : p.o = 0) (hv : VRs ρ M cs xs) (hM : ∀ j, j < xs.length → M' ⟨p.b, j, none⟩ = xs[j]?) {v v' : AV} (hf : Frz m cs v v') :
    ∀ {x : Value}, VR ρ M v x → VR ρ M' v' x := by
  induction hf with
  | refl v => intro x hx; exact hx.mono hg
  | slv hl hs hfl hc =>
    rename_i sz len es
    intro x hx
    cases hx with
    | slv hp' hcc =>
      rename_i cap q
      rw [hp] at hp'; injection hp' with hp'; subst hp'
      rw [h0]
      subst hl
      have hxl : xs.length = cs.length := hv.len.symm
      refine VR.sl_new (xs := xs) hs ?_ (fun i hi => ?_) hcc.1 ⟨fun h => (by cases h), by simp⟩ (fun n h => (by cases h))
      · rw [hfl]; exact (hv.take _).mono hg
      · rw [Nat.zero_add]; exact hM i (by omega)
  | agg hl h ih =>
    intro x hx
    cases hx with
    | agg hl' h' =>
      rename_i l l' ys
      refine .agg (by rw [← hl]; exact hl') (fun i u y hu hy => ?_)
      have hi : i < l.length := by rw [hl]; exact (List.getElem?_eq_some_iff.1 hu).1
      exact ih i l[i] u (List.getElem?_eq_getElem hi) hu (h' i _ y (List.getElem?_eq_getElem hi) hy)
  | tup hl h ih =>
    intro x hx
    cases hx with
    | tup hl' h' =>
      rename_i l l' ys
      refine .tup (by rw [← hl]; exact hl') (fun i u y hu hy => ?_)
      have hi : i < l.length := by rw [hl]; exact (List.getElem?_eq_some_iff.1 hu).1
      exact ih i l[i] u (List.getElem?_eq_getElem hi) hu (h' i _ y (List.getElem?_eq_getElem hi) hy)

theorem Rel.frz {ρ : Names} {M : Mem} {σ σ' : Store} {w : World} {m : Nm} {cs : List AV} (hr : Rel ρ M σ w) (hm : σ m = some (.var cs)) (hs : FrzS m cs σ σ') :
    ∃ p M', ρ m = some p ∧ Grows ρ M ρ M' ∧ Rel ρ M' σ' w ∧ (∀ v v' x, Frz m cs v v' → VR ρ M v x → VR ρ M' v' x) ∧ ∀ a, (M' a).isSome = true → (M a).isSome = true ∨ a.block = p.b := by
  obtain ⟨p, hp, h0, xs, us, T, hh, ⟨hv, hpk⟩, hmm⟩ := hr.lies m _ hm
  have hg : Grows ρ M ρ (M.with p.b xs xs.length) := ⟨fun _ _ h => h, fun a x h => by
    unfold Mem.with
    rw [if_neg (fun hc => by rw [hmm a hc.1] at h; cases h)]; exact h⟩
  have hget : ∀ j, j < xs.length → (M.with p.b xs xs.length) ⟨p.b, j, none⟩ = xs[j]? := fun j hj => by
    unfold Mem.with; simp [hj]
  have hvr : ∀ v v' x, Frz m cs v v' → VR ρ M v x → VR ρ (M.with p.b xs xs.length) v' x := fun v v' x hf hx => hf.vr hg hp h0 hv hget hx
  have hvrs : ∀ l l' ys, Frzs m cs l l' → VRs ρ M l ys → VRs ρ (M.with p.b xs xs.length) l' ys := fun l l' ys hf hx => by
    refine ⟨by rw [← hf.1]; exact hx.len, fun i u y hu hy => ?_⟩
    have hi : i < l.length := by rw [hf.1]; exact (List.getElem?_eq_some_iff.1 hu).1
    exact hvr _ _ _ (hf.2 i l[i] u (List.getElem?_eq_getElem hi) hu) (hx.get i _ y (List.getElem?_eq_getElem hi) hy)
  have hsome : ∀ n, (σ' n).isSome = true → (σ n).isSome = true := fun n hn => by
    obtain ⟨o', ho'⟩ := Option.isSome_iff_exists.1 hn
    obtain ⟨o, ho, _⟩ := hs.get n o' ho'
    simp [ho]
  refine ⟨p, M.with p.b xs xs.length, hp, hg, ⟨fun a x hx => ?_, fun n o' hno => ?_, fun n k p' q' hn hk => hr.inj n k p' q' (hsome n hn) (hsome k hk)⟩, hvr, fun a ha => ?_⟩
  · unfold Mem.with at hx
    split at hx
    · rename_i hc
      have hx' : (xs ++ us)[a.off]? = some x := by rw [List.getElem?_append_left hc.2.2]; exact hx
      unfold World.cell?
      rw [hc.1, hh]
      simp only [hc.2.1]
      simpa using hx'
    · exact hr.mem a x hx
  · have hne : n ≠ m := fun e => by subst e; rw [hs.gone] at hno; cases hno
    obtain ⟨o, ho, hrel⟩ := hs.get n o' hno
    obtain ⟨q, hq, hor⟩ := hr.lies n o ho
    have hqb : q.b ≠ p.b := fun e => hne (hr.inj n m q p (by simp [ho]) (by simp [hm]) hq hp e)
    have hM : ∀ a : Addr, a.block = q.b → M a = none → (M.with p.b xs xs.length) a = none := fun a ha hx => by
      unfold Mem.with; rw [if_neg (fun hc => hqb (ha ▸ hc.1))]; exact hx
    refine ⟨q, hq, ?_⟩
    rcases hrel with rfl | ⟨l, l', rfl, rfl, hf⟩
    · cases o with
      | var cs' =>
        obtain ⟨g0, ys, vs, T', gh, gv, gm⟩ := hor
        exact ⟨g0, ys, vs, T', gh, ⟨gv.1.mono hg, gv.2⟩, fun a ha => hM a ha (gm a ha)⟩
      | tok =>
        obtain ⟨ys, T', gh, gf, gm⟩ := hor
        exact ⟨ys, T', gh, gf, fun a ha hoff => hM a ha (gm a ha hoff)⟩
      | map es =>
        obtain ⟨ys, c, gh, gl, ge⟩ := hor
        exact ⟨ys, c, gh, gl, fun i e x he hx => ⟨(ge i e x he hx).1.mono hg, (ge i e x he hx).2.mono hg⟩⟩
      | other o => exact hor
      | glob b o => exact hor
    · obtain ⟨g0, ys, vs, T', gh, gv, gm⟩ := hor
      exact ⟨g0, ys, vs, T', gh, ⟨hvrs _ _ _ hf gv.1, gv.2⟩, fun a ha => hM a ha (gm a ha)⟩
  · unfold Mem.with at ha
    split at ha
    · rename_i hc; exact .inr hc.1
    · exact .inl ha

/-- A call whose rows are not stored into any more. -/
theorem ACalls.frz {g : FuncId} {args : List AV} {σ : Store} {ns : Nm} {R : AEnd → Store → Prop}
    (h : ACalls P g args σ ns fun e σ' => R e σ' ∨ ∃ m cs v v' σ'', e = .ret v ∧ σ' m = some (.var cs) ∧ Frz m cs v v' ∧ FrzS m cs σ' σ'' ∧ R (.ret v') σ'') : ACalls P g args σ ns R := by
  refine ⟨h.1, fun ρ M w xs h1 h2 h3 => (h.2 ρ M w xs h1 h2 h3).mono ?_⟩
  rintro e w' ⟨ae, σ', ρ', M', he, hR | ⟨m, cs, v, v', σ'', rfl, hm, hf, hs, hR⟩, hr, hev⟩
  · exact ⟨ae, σ', ρ', M', he, hR, hr, hev⟩
  · obtain ⟨p, M'', hp, hg, hr2, hv, hnew⟩ := hr.frz hm hs
    have hsome : ∀ n, (σ'' n).isSome = true → (σ' n).isSome = true := fun n hn => by
      obtain ⟨o', ho'⟩ := Option.isSome_iff_exists.1 hn
      obtain ⟨o, ho, _⟩ := hs.get n o' ho'
      simp [ho]
    cases he with
    | ret hx =>
      refine ⟨.ret v', σ'', ρ', M'', .ret (hv _ _ _ hf hx), hR, hr2, hev.grows.trans hg, hev.size, hev.os, hev.tape, hev.output, hev.keep, fun b ⟨n, q, hn, hq, eb⟩ => hev.own b ⟨n, q, hsome n hn, hq, eb⟩, fun a ha => ?_, hev.names, fun n hn => hev.dom n (hsome n hn)⟩
      rcases hnew a ha with h | h
      · exact hev.memNew a h
      · rcases hev.own p.b ⟨m, p, by simp [hm], hp, rfl⟩ with h' | h'
        · exact .inr (.inl (h ▸ h'))
        · exact .inr (.inr (h ▸ h'))

/-! ### Marks -/
theorem ACalls.under {f : FuncId} {args : List AV} {σ : Store} {ns ns' : Nm} {R : AEnd → Store → Prop} (hu : ns'.under ns = true) (h : ACalls P f args σ ns' R) : ACalls P f args σ ns R :=
  ⟨h.1, fun ρ M w xs h1 h2 h3 => (h.2 ρ M w xs h1 (fun n hn => h2 n (Nm.under_trans hn hu)) h3).mono fun e w' ⟨ae, σ', ρ', M', a, b, c, d⟩ => ⟨ae, σ', ρ', M', a, b, c, d.mono fun n hn => Nm.under_trans hn hu⟩⟩
theorem acalls_val {f : FuncId} {args : List AV} {σ : Store} {ns : Nm} {R : AEnd → Store → Prop} (h : ∀ ns' : Nm, [ByVal ns'] → ns'.under ns = true → ACalls P f args σ ns' R) : ACalls P f args σ ns R :=
  (h (ns.mk false) (by simp)).under (by simp)
theorem acalls_row {f : FuncId} {args : List AV} {σ : Store} {ns : Nm} {R : AEnd → Store → Prop} (h : ∀ ns' : Nm, [ByRow ns'] → ns'.under ns = true → ACalls P f args σ ns' R) : ACalls P f args σ ns R :=
  (h (ns.mk true) (by simp)).under (by simp)
theorem pure_val {f : FuncId} {args : List AV} {v : AV} (h : ∀ (σ : Store) (ns : Nm), [ByVal ns] → ACalls P f args σ ns fun e σ' => e = .ret v ∧ σ' = σ) : Pure P f args v :=
  fun σ ns => acalls_val fun ns' _ _ => h σ ns'
theorem pure_row {f : FuncId} {args : List AV} {v : AV} (h : ∀ (σ : Store) (ns : Nm), [ByRow ns] → ACalls P f args σ ns fun e σ' => e = .ret v ∧ σ' = σ) : Pure P f args v :=
  fun σ ns => acalls_row fun ns' _ _ => h σ ns'
theorem aiter_val {g : FuncId} {caps : List AV} {ys : List (List AV)} (hen : enters P g = true) (h : ∀ (l : Nat) (ns : Nm) [ByVal ns] (J : Nat → Store → Fre → Prop) (X : Store → Fre → Prop),
    (∀ i σ F, J i σ F → (∀ n, n.under ns = true → σ n = none) ∧ ∀ n, F.keep n → n.under ns = false) →
    (∀ i σ F y τ, J i σ F → ys[i]? = some y → σ.le τ → AYield P l y τ F fun b τ' F' => ∃ σ', τ' = frameS τ σ σ' ∧ if b = true then J (i + 1) σ' F' else X σ' F') →
    ∀ (σ : Store) (F : Fre), J 0 σ F → ∀ (ρ : Names) (M : Mem) (w : World) (xs : List Value), Rel ρ M σ w → (∀ n, n.under ns = true → ρ n = none) → F.Ok ρ M → VRs ρ M (.fn (.yield l) [] [] :: caps) xs →
      Calls P g xs.toArray w fun e w' => ∃ x σ' F' ρ' M', e = .returned x ∧ (J ys.length σ' F' ∨ X σ' F') ∧ F'.Le F ∧ F'.Ok ρ' M' ∧ Rel ρ' M' σ' w' ∧ Evo (fun n => n.under ns = true ∨ F.keep n) ρ M σ w ρ' M' σ' w') : AIter P g caps ys :=
  ⟨hen, fun l ns J X h1 h2 σ F hJ ρ M w xs hr hfr hF hv =>
    (h l (ns.mk false) J X (fun i σ F hJ => ⟨fun n hn => (h1 i σ F hJ).1 n (Nm.under_trans hn (by simp)), fun n hn => by
      cases hx : n.under (ns.mk false) with
      | false => rfl
      | true => have := (h1 i σ F hJ).2 n hn; rw [Nm.under_trans hx (by simp)] at this; cases this⟩) h2 σ F hJ ρ M w xs hr (fun n hn => hfr n (Nm.under_trans hn (by simp))) hF hv).mono
      fun e w' ⟨x, σ', F', ρ', M', a, b, c, d, e1, e2⟩ => ⟨x, σ', F', ρ', M', a, b, c, d, e1, e2.mono fun n hn => hn.imp (fun h => Nm.under_trans h (by simp)) id⟩⟩
theorem aiter_of_wpcV (hm : P.follows .mixedOrders = true) (pl : List (Nat × Plan)) {g : FuncId} {fn : Func} {c : Code} {caps : List AV} {ys : List (List AV)} (hf : P.funcs[g]? = some fn) (hb : fn.body = some c) (hfit : fitsC pl c = true) (hen : enters P g = true)
    (h : ∀ (l : Nat) (ns : Nm) [ByVal ns] (J : Nat → Store → Fre → Prop) (X : Store → Fre → Prop), YieldOk P l ys ns J X → ∀ σ F, J 0 σ F →
      wpc P pl c (bodyI P fn.results.toList σ ns fun σ' F' => J ys.length σ' F' ∨ X σ' F') { tmps := (.fn (.yield l) [] [] :: caps) ++ List.replicate (fn.ntmps - (AV.fn (.yield l) [] [] :: caps).length) (.tup []), st := σ, ns := ns, c := 0, dfs := [], fr := F }) : AIter P g caps ys :=
  aiter_val hen fun l ns _ J X hJp hy σ F hJ ρ M w xs hr hfr hF hv => aiter_run hm pl hf hb hfit hen hJp hJ (h l ns J X ⟨hJp, hy⟩ σ F hJ) hr hfr hF hv
end
end Go.Abs
