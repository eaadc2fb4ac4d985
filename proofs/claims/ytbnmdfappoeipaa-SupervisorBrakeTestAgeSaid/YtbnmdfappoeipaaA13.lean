/- A variable that is not stored into any more: its cells by value. -/
import Derived.Test.YtbnmdfappoeipaaA12
set_option linter.unusedVariables false
set_option linter.unusedSimpArgs false
namespace Go.Abs
section
variable {P : Program}

theorem Rel.freeze {ρ : Names} {M : Mem} {σ : Store} {w : World} {n : Nm} {cs : List AV} (hr : Rel ρ M σ w) (hn : σ n = some (.var cs)) :
    ∃ p M', ρ n = some p ∧ p.o = 0 ∧ Grows ρ M ρ M' ∧ Rel ρ M' (σ.del n) w ∧ VR ρ M' (.cptr cs) (.pointer (some ⟨p.b, 0, none⟩)) ∧ ∀ a, (M' a).isSome = true → (M a).isSome = true ∨ a.block = p.b := by
  obtain ⟨p, hp, h0, xs, T, hh, hv, hm⟩ := hr.lies n _ hn
  have hg : Grows ρ M ρ (M.with p.b xs xs.length) := ⟨fun _ _ h => h, fun a x h => by
    unfold Mem.with
    rw [if_neg (fun hc => by rw [hm a hc.1] at h; cases h)]; exact h⟩
  refine ⟨p, M.with p.b xs xs.length, hp, h0, hg, ⟨fun a x hx => ?_, fun m o hmo => ?_, fun m k p' q' hm' hk' => ?_⟩, ?_, fun a ha => ?_⟩
  · unfold Mem.with at hx
    split at hx
    · rename_i hc
      unfold World.cell?
      rw [hc.1, hh]
      simp [hc.2.1, hx]
    · exact hr.mem a x hx
  · have hne : m ≠ n := fun e => by subst e; simp [Store.del] at hmo
    have hmo' : σ m = some o := by simpa [Store.del, hne] using hmo
    obtain ⟨q, hq, ho⟩ := hr.lies m o hmo'
    have hqb : q.b ≠ p.b := fun e => hne (hr.inj m n q p (by simp [hmo']) (by simp [hn]) hq hp e)
    refine ⟨q, hq, ?_⟩
    cases o with
    | var cs' =>
      obtain ⟨g0, ys, T', gh, gv, gm⟩ := ho
      exact ⟨g0, ys, T', gh, gv.mono hg, fun a ha => by unfold Mem.with; rw [if_neg (fun hc => hqb (ha ▸ hc.1))]; exact gm a ha⟩
    | tok =>
      obtain ⟨ys, T', gh, gf, gm⟩ := ho
      exact ⟨ys, T', gh, gf, fun a ha hoff => by unfold Mem.with; rw [if_neg (fun hc => hqb (ha ▸ hc.1))]; exact gm a ha hoff⟩
    | map es =>
      obtain ⟨ys, c, gh, gl, ge⟩ := ho
      exact ⟨ys, c, gh, gl, fun i e x he hx => ⟨(ge i e x he hx).1.mono hg, (ge i e x he hx).2.mono hg⟩⟩
    | other o => exact ho
  · have h1 : (σ m).isSome = true := by
      by_cases e : m = n
      · subst e; simp [Store.del] at hm'
      · simpa [Store.del, e] using hm'
    have h2 : (σ k).isSome = true := by
      by_cases e : k = n
      · subst e; simp [Store.del] at hk'
      · simpa [Store.del, e] using hk'
    exact hr.inj m k p' q' h1 h2
  · have hget : ∀ j, j < xs.length → (M.with p.b xs xs.length) ⟨p.b, 0 + j, none⟩ = xs[j]? := fun j hj => by
      unfold Mem.with; simp [hj]
    refine .cptr (fun j v hv' => ?_) (fun j v x hv' hx => ?_)
    · obtain ⟨x, hx, _⟩ := hv.ex hv'
      rw [hget j (List.getElem?_eq_some_iff.1 hx).1, hx]; rfl
    · obtain ⟨y, hy, hvy⟩ := hv.ex hv'
      rw [hget j (List.getElem?_eq_some_iff.1 hy).1, hy] at hx
      injection hx with hx; subst hx
      exact hvy.mono hg
  · unfold Mem.with at ha
    split at ha
    · rename_i hc; exact .inr hc.1
    · exact .inl ha

/-- A closure that has caught a variable of its own maker. -/
theorem ACalls.freeze {g : FuncId} {args : List AV} {σ : Store} {ns n : Nm} {f : Fn} {fs pre post cs : List AV} (hn : n.under ns = true)
    (h : ACalls P g args σ ns fun e σ' => e = .ret (.fn f fs (pre ++ .ptr n 0 :: post)) ∧ σ' = σ.up n (.var cs)) :
    ACalls P g args σ ns fun e σ' => e = .ret (.fn f fs (pre ++ .cptr cs :: post)) ∧ σ' = σ := by
  refine ⟨h.1, fun ρ M w xs h1 h2 h3 => (h.2 ρ M w xs h1 h2 h3).mono ?_⟩
  rintro e w' ⟨ae, σ', ρ', M', he, ⟨rfl, rfl⟩, hr, hev⟩
  obtain ⟨p, M'', hp, hp0, hg, hr2, hv, hnew⟩ := hr.freeze (n := n) (cs := cs) (by simp)
  have hσn : σ n = none := by
    cases hx : σ n with
    | none => rfl
    | some o => obtain ⟨q, hq, _⟩ := h1.lies n o hx; rw [h2 n hn] at hq; cases hq
  have hdel : (σ.up n (.var cs)).del n = σ := by
    funext m; unfold Store.del Store.up
    by_cases e : m = n
    · subst e; simp [hσn]
    · simp [e]
  rw [hdel] at hr2
  refine ⟨_, σ, ρ', M'', ?_, ⟨rfl, rfl⟩, hr2, hev.grows.trans hg, hev.size, hev.os, hev.tape, hev.output, hev.keep, fun b ⟨m, q, hm, hq, eb⟩ => hev.own b ⟨m, q, ?_, hq, eb⟩, fun a ha => ?_, hev.names, fun _ h => .inl h⟩
  · cases he with
    | ret hx =>
      cases hx with
      | fn hl1 hl2 g1 g2 =>
        rename_i fx cx
        refine .ret (.fn hl1 (by simpa using hl2) (fun i v x hv' hx' => (g1 i v x hv' hx').mono hg) (fun i v x hv' hx' => ?_))
        have hlen : (pre ++ AV.ptr n 0 :: post).length = (pre ++ AV.cptr cs :: post).length := by simp
        by_cases hi : i = pre.length
        · subst hi
          have e1 : (pre ++ AV.cptr cs :: post)[pre.length]? = some (AV.cptr cs) := by simp
          have e2 : (pre ++ AV.ptr n 0 :: post)[pre.length]? = some (AV.ptr n 0) := by simp
          rw [e1] at hv'; injection hv' with hv'; subst hv'
          have := g2 _ _ x e2 hx'
          cases this with
          | ptr hq =>
            rw [hp] at hq; injection hq with hq; subst hq
            rw [hp0]; exact hv
        · have e1 : (pre ++ AV.cptr cs :: post)[i]? = (pre ++ AV.ptr n 0 :: post)[i]? := by
            rw [List.getElem?_append, List.getElem?_append]
            split
            · rfl
            · obtain ⟨k, hk⟩ : ∃ k, i - pre.length = k + 1 := ⟨i - pre.length - 1, by omega⟩
              rw [hk]; rfl
          rw [e1] at hv'
          exact (g2 _ _ x hv' hx').mono hg
  · by_cases e : m = n
    · subst e; rw [hσn] at hm; cases hm
    · simpa [Store.up, e] using hm
  · rcases hnew a ha with h | h
    · exact hev.memNew a h
    · rcases hev.own p.b ⟨n, p, by simp, hp, rfl⟩ with h' | h'
      · exact .inr (.inl (h ▸ h'))
      · exact .inr (.inr (h ▸ h'))
/-- .. where other variables have been made, too. -/
theorem ACalls.freezeT {g : FuncId} {args : List AV} {σ τ : Store} {ns n : Nm} {f : Fn} {fs pre post cs : List AV} (hτ : (∀ m, m.under ns = true → σ m = none) → τ n = none)
    (h : ACalls P g args σ ns fun e σ' => e = .ret (.fn f fs (pre ++ .ptr n 0 :: post)) ∧ σ' = τ.up n (.var cs)) :
    ACalls P g args σ ns fun e σ' => e = .ret (.fn f fs (pre ++ .cptr cs :: post)) ∧ σ' = τ := by
  refine ⟨h.1, fun ρ M w xs h1 h2 h3 => (h.2 ρ M w xs h1 h2 h3).mono ?_⟩
  rintro e w' ⟨ae, σ', ρ', M', he, ⟨rfl, rfl⟩, hr, hev⟩
  obtain ⟨p, M'', hp, hp0, hg, hr2, hv, hnew⟩ := hr.freeze (n := n) (cs := cs) (by simp)
  have hτn : τ n = none := hτ fun m hm => by
    cases hx : σ m with
    | none => rfl
    | some o => obtain ⟨q, hq, _⟩ := h1.lies m o hx; rw [h2 m hm] at hq; cases hq
  have hup : ∀ m, (τ m).isSome = true → ((τ.up n (.var cs)) m).isSome = true := fun m hm => by
    rw [Store.up_get]; split
    · rfl
    · exact hm
  have hdel : (τ.up n (.var cs)).del n = τ := by
    funext m; unfold Store.del Store.up
    by_cases e : m = n
    · subst e; simp [hτn]
    · simp [e]
  rw [hdel] at hr2
  refine ⟨_, τ, ρ', M'', ?_, ⟨rfl, rfl⟩, hr2, hev.grows.trans hg, hev.size, hev.os, hev.tape, hev.output, hev.keep, fun b ⟨m, q, hm, hq, eb⟩ => hev.own b ⟨m, q, hup m hm, hq, eb⟩, fun a ha => ?_, hev.names, fun m hm => hev.dom m (hup m hm)⟩
  · cases he with
    | ret hx =>
      cases hx with
      | fn hl1 hl2 g1 g2 =>
        rename_i fx cx
        refine .ret (.fn hl1 (by simpa using hl2) (fun i v x hv' hx' => (g1 i v x hv' hx').mono hg) (fun i v x hv' hx' => ?_))
        have hlen : (pre ++ AV.ptr n 0 :: post).length = (pre ++ AV.cptr cs :: post).length := by simp
        by_cases hi : i = pre.length
        · subst hi
          have e1 : (pre ++ AV.cptr cs :: post)[pre.length]? = some (AV.cptr cs) := by simp
          have e2 : (pre ++ AV.ptr n 0 :: post)[pre.length]? = some (AV.ptr n 0) := by simp
          rw [e1] at hv'; injection hv' with hv'; subst hv'
          have := g2 _ _ x e2 hx'
          cases this with
          | ptr hq =>
            rw [hp] at hq; injection hq with hq; subst hq
            rw [hp0]; exact hv
        · have e1 : (pre ++ AV.cptr cs :: post)[i]? = (pre ++ AV.ptr n 0 :: post)[i]? := by
            rw [List.getElem?_append, List.getElem?_append]
            split
            · rfl
            · obtain ⟨k, hk⟩ : ∃ k, i - pre.length = k + 1 := ⟨i - pre.length - 1, by omega⟩
              rw [hk]; rfl
          rw [e1] at hv'
          exact (g2 _ _ x hv' hx').mono hg
  · rcases hnew a ha with h | h
    · exact hev.memNew a h
    · rcases hev.own p.b ⟨n, p, by simp, hp, rfl⟩ with h' | h'
      · exact .inr (.inl (h ▸ h'))
      · exact .inr (.inr (h ▸ h'))
theorem AVle.vs {l l' l'' : List AV} (h : AVsle l l') (h' : AVsle l' l'') : AVsle l l'' :=
  ⟨h.1.trans h'.1, fun i v v'' hv hv'' => by
    have hi : i < l'.length := by rw [← h.1]; exact (List.getElem?_eq_some_iff.1 hv).1
    exact AVle.trans (h.2 i v l'[i] hv (List.getElem?_eq_getElem hi)) (h'.2 i l'[i] v'' (List.getElem?_eq_getElem hi) hv'')⟩
theorem VarWk.trans {a b c : AObj} (h : VarWk a b) (h' : VarWk b c) : VarWk a c := by
  rcases h with rfl | ⟨x, y, rfl, rfl, h⟩
  · exact h'
  · rcases h' with rfl | ⟨x', y', e, rfl, h'⟩
    · exact .inr ⟨x, y, rfl, rfl, h⟩
    · injection e with e; subst e
      exact .inr ⟨x, y', rfl, rfl, AVle.vs h h'⟩
theorem StWeak.pre {ns : Nm} {σ τ τ' σ' : Store} (h : StWk τ τ') (h' : StWeak ns σ τ' σ') : StWeak ns σ τ σ' := fun n => by
  rcases h' n with h1 | h1
  · exact .inl h1
  · refine .inr fun o ho => ?_
    obtain ⟨o', ho', hw⟩ := h1 o ho
    obtain ⟨o'', ho'', hw'⟩ := h n o' ho'
    exact ⟨o'', ho'', hw'.trans hw⟩
class StWkC (τ τ' : Store) : Prop where
  h : StWk τ τ'
instance StWkC.refl {τ : Store} : StWkC τ τ := ⟨.refl τ⟩
instance StWkC.var {τ τ' : Store} {n : Nm} {cs cs' : List AV} [h : StWkC τ τ'] [hc : AVsLe cs cs'] : StWkC (τ.up n (.var cs)) (τ'.up n (.var cs')) := ⟨fun m o ho => by
  unfold Store.up at ho ⊢
  split at ho
  · rename_i e; injection ho with ho; subst ho
    rw [if_pos e]; exact ⟨_, rfl, .inr ⟨cs, cs', rfl, rfl, hc.le⟩⟩
  · rename_i e; rw [if_neg e]; exact h.h m o ho⟩
instance StWkC.tok {τ τ' : Store} {n : Nm} {o : AObj} [h : StWkC τ τ'] : StWkC (τ.up n o) (τ'.up n o) := ⟨fun m o' ho => by
  unfold Store.up at ho ⊢
  split at ho
  · rename_i e; rw [if_pos e]; exact ⟨_, ho, .inl rfl⟩
  · rename_i e; rw [if_neg e]; exact h.h m o' ho⟩
theorem endA_eq {v v' : AV} {τ σ : Store} {ns : Nm} (h : v = v') (hw : restoreS ns [] σ τ = σ) : endA (some v) τ [] σ ns (fun e σ' => e = .ret v' ∧ σ' = σ) := by subst h; exact endA_pure hw
theorem endA_le' {v v' : AV} {τ σ : Store} {ns : Nm} (h : AVle v v') (hw : restoreS ns [] σ τ = σ) : endA (some v) τ [] σ ns (fun e σ' => e = .ret v' ∧ σ' = σ) := ⟨rfl, v, rfl, v', σ, h, .same hw, rfl, rfl⟩
attribute [simp] aeq aeqFields aeqElems
theorem wrap64 {n : Int} (h1 : -9223372036854775808 ≤ n) (h2 : n ≤ 9223372036854775807) : IntKind.wrap .i64 n = n := by
  simp only [IntKind.wrap, IntKind.bits, IntKind.signed]
  simp
  split <;> omega
end
end Go.Abs
