/- append. -/
import Derived.Test.YtbnmdfappoeipaaA7
import Derived.Laws.AppendOwn
set_option linter.unusedVariables false
set_option linter.unusedSimpArgs false
namespace Go.Abs

def aappend (P : Program) (n : Nm) (σ : Store) (ts : Array TypeId) (s x : AV) : Option (AV × Store) :=
  match s, x with
  | .sl sz es c, .sl sz' es' _ => match tyElem P (ts.getD 0 0), tyElem P (ts.getD 1 0) with
    | some e, some _ => match tySize P e, tyBytes P e, tyZero P e with
      | some k, some b, some z =>
        if ts.size = 2 ∧ 0 < k ∧ 0 < b ∧ z.length = k ∧ (es.isEmpty = true ∨ sz = k) ∧ (es'.isEmpty = true ∨ sz' = k) ∧ (es.length + es'.length) * b ≤ 140737488355328 then
          if es'.isEmpty = true then some (.sl sz es c, σ) else
          match c with
          | .exact => some (.sl k (es ++ es') (.tok n), σ.up n .tok)
          | .nil => some (.sl k (es ++ es') (.tok n), σ.up n .tok)
          | .tok m => match σ m with
            | some .tok => if sz = k ∧ es'.all (fun e => e.all AV.one) = true then some (.sl k (es ++ es') (.tok n), (σ.del m).up n .tok) else none
            | _ => none
          | .unk => none
        else none
      | _, _, _ => none
    | _, _ => none
  | _, _ => none

theorem Store.del_le (σ : Store) (m : Nm) : (σ.del m).le σ := fun n o h => by
  unfold Store.del at h; split at h
  · cases h
  · exact h
theorem VRs.len_flatten {ρ : Names} {M : Mem} {es : List (List AV)} {xs : List Value} {k : Nat} (h : VRs ρ M es.flatten xs) (hs : ∀ e, e ∈ es → e.length = k) : xs.length = es.length * k := by
  rw [← h.len, flatten_len es k hs]

theorem aappend_sound {P : Program} {ρ : Names} {M : Mem} {σ σ' : Store} {w : World} {n : Nm} {NS : Nm → Prop} {ts : Array TypeId} {t : TypeId} {s x v : AV} {s' x' : Value} (hr : Rel ρ M σ w) (hn : ρ n = none) (hN : NS n)
    (hs : VR ρ M s s') (hx : VR ρ M x x') (h : aappend P n σ ts s x = some (v, σ')) :
    ∃ (y : Value) (w' : World) (ρ' : Names) (M' : Mem), (Builtin.append_ ts t #[s', x']).run P w = .ok y w' ∧ VR ρ' M' v y ∧ Rel ρ' M' σ' w' ∧ Evo NS ρ M σ w ρ' M' σ' w' := by
  unfold aappend at h
  split at h
  · rename_i sz es c sz' es' c'
    split at h
    · rename_i e eu he heu
      split at h
      · rename_i k b z hk hb hz
        split at h
        · rename_i hc
          obtain ⟨hts, hk0, hb0, hzl, hsz, hsz', hbound⟩ := hc
          obtain ⟨t1, t2, rfl⟩ : ∃ t1 t2, ts = #[t1, t2] := by
            match ts, hts with
            | ⟨[a, b]⟩, _ => exact ⟨a, b, rfl⟩
          have hu1 : P.underlying t1 = some (.slice e) := tyElem_run he
          have hu2 : P.underlying t2 = some (.slice eu) := tyElem_run heu
          obtain ⟨i, hi, hik, hib, zv, hzv, hzc⟩ : ∃ i, P.info? e = some i ∧ i.size = k ∧ i.bytes = b ∧ ∃ zv, i.zero = some zv ∧ zv.cells.toList.map ofCell = z := by
            cases hi : P.info? e with
            | none => simp [tySize, hi] at hk
            | some i =>
              cases hzz : i.zero with
              | none => simp [tyZero, hi, hzz] at hz
              | some zv => exact ⟨i, rfl, by simpa [tySize, hi] using hk, by simpa [tyBytes, hi] using hb, zv, hzz, by simpa [tyZero, hi, hzz] using hz⟩
          have hzs : zv.cells.size = k := by have := congrArg List.length hzc; simp at this; omega
          -- both slices, as memory has them
          obtain ⟨base, cap, xs, rfl, hcap, hese, hvs, hnone, hbase⟩ := VR.sl_cells hr hs
          obtain ⟨base', cap', ys, rfl, hcap', hese', hvs', hnone', hbase'⟩ := VR.sl_cells hr hx
          have hesk : ∀ e, e ∈ es → e.length = k := fun e he => by
            rcases hsz with h | h
            · have : es = [] := by simpa using h
              subst this; simp at he
            · rw [← h]; exact hese e he
          have hesk' : ∀ e, e ∈ es' → e.length = k := fun e he => by
            rcases hsz' with h | h
            · have : es' = [] := by simpa using h
              subst this; simp at he
            · rw [← h]; exact hese' e he
          have hxl : xs.length = es.length * k := hvs.len_flatten hesk
          have hyl : ys.length = es'.length * k := hvs'.len_flatten hesk'
          have hneed : es.length + es'.length ≤ 140737488355328 := by
            have : (es.length + es'.length) * 1 ≤ (es.length + es'.length) * b := Nat.mul_le_mul_left _ hb0
            omega
          have hlen : (Builtin.lenOf (.slice base' es'.length cap')).run P w = .ok es'.length w := by simp [Builtin.lenOf]
          have hfc : ∀ d, (Builtin.firstCells i.size es'.length (.slice base' es'.length cap')).run P { w with drawn := d } = .ok ys.toArray { w with drawn := d } := fun d => by
            rw [hik]; exact Rel.firstCells hr hyl hnone' hbase' d
          split at h
          · rename_i hemp
            have hem : es' = [] := by simpa using hemp
            injection h with h; injection h with h1 h2; subst h1; subst h2
            have hy0 : ys = [] := List.eq_nil_of_length_eq_zero (by rw [hyl, hem]; simp)
            refine ⟨.slice base es.length cap, w, ρ, M, ?_, hs, hr, .refl⟩
            subst hem
            refine run_append_none' w t1 t2 t e eu i hu1 hu2 hi base es.length cap hcap _ hlen ?_
            have := hfc w.drawn
            rw [hy0] at this
            exact this
          · rename_i hemp
            have hpos : 0 < es'.length := by
              rcases Nat.eq_zero_or_pos es'.length with h | h
              · exact absurd (by simpa using List.eq_nil_of_length_eq_zero h) hemp
              · exact h
            -- a new block: what is left of the old store is τ
            have grow : ∀ (τ : Store), Rel ρ M τ w → τ.le σ → cap < es.length + es'.length →
                ∃ (y : Value) (w' : World) (ρ' : Names) (M' : Mem), (Builtin.append_ #[t1, t2] t #[.slice base es.length cap, .slice base' es'.length cap']).run P w = .ok y w' ∧
                  VR ρ' M' (.sl k (es ++ es') (.tok n)) y ∧ Rel ρ' M' (τ.up n .tok) w' ∧ Evo NS ρ M σ w ρ' M' (τ.up n .tok) w' := by
              intro τ hτ hle hlt
              have h63 : ((es.length + es'.length : Nat) : Int) ≤ 9223372036854775807 := by omega
              have hrun : ∃ gc, es.length + es'.length ≤ gc ∧ (Builtin.append_ #[t1, t2] t #[.slice base es.length cap, .slice base' es'.length cap']).run P w =
                  .ok (.slice (some ⟨w.heap.size, 0, none⟩) (es.length + es'.length) gc) (w.drew.alloc (.cells (xs ++ ys ++ (Builtin.zeroCells zv.cells (gc - (es.length + es'.length))).toList).toArray e)) := by
                cases base with
                | none =>
                  obtain ⟨hes0, hc0⟩ := hnone rfl
                  have hx0 : xs = [] := List.eq_nil_of_length_eq_zero (by rw [hxl, hes0]; simp)
                  have hn' := run_append_nil' (P := P) w t1 t2 t e eu i zv hu1 hu2 hi hzv (.slice base' es'.length cap') es'.length ys hlen (hfc _) hpos (by omega) (by
                    rw [hib]
                    have : es'.length * b ≤ (es.length + es'.length) * b := Nat.mul_le_mul_right _ (by omega)
                    omega)
                  refine ⟨grownCap w es'.length 0 e, ?_, ?_⟩
                  · have := grownCap_ge w es'.length 0 e; rw [hes0]; simpa using this
                  · subst hc0; subst hx0; subst hes0
                    simp only [List.length_nil, Nat.zero_add, List.nil_append] at hn' ⊢
                    rw [hn']
                    congr 3
                    apply Array.ext'; simp
                | some a =>
                  obtain ⟨hsp, hget⟩ := hbase a rfl
                  have holds : ∀ j v, xs[j]? = some v → w.cell? (a.add j) = some v := fun j v hv => by
                    have hsp : a.spot = none := hsp.resolve_left fun h => by subst h; simp at hv
                    have ha : a = ⟨a.block, a.off, none⟩ := by cases a; simp_all
                    rw [ha, Addr.add_mid]; exact hr.mem _ _ (hget j v hv)
                  have hg' := run_append_grow' (P := P) w t1 t2 t e eu i zv hu1 hu2 hi hzv a es.length cap xs (by rw [hik]; exact hxl) holds (.slice base' es'.length cap') es'.length ys hlen (hfc _) hlt h63
                    (by rw [hib]; exact growslice_fits hlt hbound)
                  refine ⟨grownCap w (es.length + es'.length) cap e, grownCap_ge .., ?_⟩
                  rw [hg']
                  congr 3
                  apply Array.ext'; simp
              obtain ⟨gc, hgc, hrun⟩ := hrun
              obtain ⟨zs, hzs'⟩ : ∃ zs : List Value, zs = (Builtin.zeroCells zv.cells (gc - (es.length + es'.length))).toList := ⟨_, rfl⟩
              rw [← hzs'] at hrun
              have hzl' : zs.length = (gc - (es.length + es'.length)) * k := by rw [hzs']; simp [Builtin.zeroCells, hzs]
              have hall : (xs ++ ys).length = (es ++ es').length * k := by simp [hxl, hyl, Nat.add_mul]
              have hd : Rel ρ M τ w.drew := hτ.drew _
              obtain ⟨h1, h2⟩ := hd.alloc_tok (NS := NS) (n := n) (xs ++ ys ++ zs) e ((es ++ es').length * k) ((gc - (es ++ es').length) * k) hn hN (by
                have : (xs ++ ys ++ zs).length = (xs ++ ys).length + zs.length := List.length_append
                rw [this, hall, hzl']; simp)
              refine ⟨_, _, _, _, hrun, ?_, h1, ?_⟩
              · have hl' : es.length + es'.length = (es ++ es').length := by simp
                rw [hl']
                refine VR.sl_new (xs := xs ++ ys ++ zs) (fun e he => ?_) ?_ (fun j hj => ?_) (by rw [← hl']; exact hgc) ⟨fun h => (by cases h), by simp⟩ (fun m hm => ?_)
                · rcases List.mem_append.1 he with h | h
                  · exact hesk e h
                  · exact hesk' e h
                · have : (xs ++ ys ++ zs).take ((es ++ es').length * k) = xs ++ ys := by rw [← hall]; exact List.take_left
                  rw [List.flatten_append, this]
                  exact (hvs.append hvs').mono h2.grows
                · rw [Nat.zero_add]; exact Mem.with_get hj
                · injection hm with hm; subst hm
                  rw [Names.up_same, Nat.zero_add]; rfl
              · have hsame : Evo NS ρ M σ w ρ M σ w.drew := .drew _
                refine ⟨h2.grows, h2.size, h2.os, h2.tape, h2.output, fun b hb ho => h2.keep b hb (fun h => ho (h.le hle)), fun b hb => ?_, fun a ha => ?_, h2.names, fun q hq => (h2.dom q hq).imp (hle.isSome) id⟩
                · rcases h2.own b hb with h | h
                  · exact .inl h
                  · exact .inr (h.le hle)
                · rcases h2.memNew a ha with h | h | h
                  · exact .inl h
                  · exact .inr (.inl h)
                  · exact .inr (.inr (h.le hle))
            split at h
            · injection h with h; injection h with h1 h2; subst h1; subst h2
              refine grow σ hr (Store.le_refl _) ?_
              have : cap = es.length ∨ base = none := by
                cases hs with
                | slnil _ => exact .inr rfl
                | slz _ _ => exact .inl rfl
                | sl _ _ hcc _ _ _ => exact .inl (hcc.1 rfl)
              rcases this with h | h
              · omega
              · have := (hnone h).2; omega
            · injection h with h; injection h with h1 h2; subst h1; subst h2
              refine grow σ hr (Store.le_refl _) ?_
              have h : base = none := by
                cases hs with
                | slnil _ => rfl
                | slz _ h => rcases h with h | h <;> cases h
                | sl _ _ hcc _ _ _ => exact absurd rfl hcc.2
              have := (hnone h).2; omega
            · rename_i m
              split at h
              · rename_i hm
                split at h
                · rename_i hone
                  injection h with h; injection h with h1 h2; subst h1; subst h2
                  by_cases hroom : es.length + es'.length ≤ cap
                  · -- in place
                    obtain ⟨hszk, hone⟩ := hone
                    subst hszk
                    have hpl : ∃ g o, base = some ⟨g, o, none⟩ ∧ ρ m = some ⟨g, o + es.length * sz, (cap - es.length) * sz⟩ := by
                      cases hs with
                      | slnil h => simp at h
                      | slz _ h => simp at h
                      | sl q1 q2 q3 q4 q5 q6 => exact ⟨_, _, rfl, q4 m rfl⟩
                    obtain ⟨g, o, rfl, hpm⟩ := hpl
                    obtain ⟨p, hp, cur, T, hh, hfit, hnoM⟩ := hr.lies m _ hm
                    rw [hpm] at hp; injection hp with hp; subst hp
                    simp only at hh hfit hnoM
                    have hold := (hbase _ rfl).2
                    simp only at hold
                    have hroomk : es.length * sz + es'.length * sz + (cap - es.length - es'.length) * sz = es.length * sz + (cap - es.length) * sz := by
                      rw [← Nat.add_mul, ← Nat.add_mul, ← Nat.add_mul]; congr 1; omega
                    have hfit' : o + es.length * sz + ys.length ≤ cur.size := by rw [hyl]; omega
                    have h1y : ∀ u ∈ ys, u.oneCell' = true := by
                      refine hvs'.one ?_
                      rw [List.all_eq_true]
                      intro v hv
                      obtain ⟨e, he, hve⟩ := List.mem_flatten.1 hv
                      exact List.all_eq_true.1 (List.all_eq_true.1 hone e he) v hve
                    have hrun := run_append_room' w t1 t2 t e eu T i hu1 hu2 hi g o es.length cap cur hh (.slice base' es'.length cap') es'.length ys hlen (hfc w.drawn) h1y hroom (by rw [hik]; exact hfit')
                    rw [hik] at hrun
                    obtain ⟨cur', hcur'⟩ : ∃ cur' : List Value, cur' = cur.toList.take (o + es.length * sz) ++ ys ++ cur.toList.drop (o + es.length * sz + ys.length) := ⟨_, rfl⟩
                    rw [← hcur'] at hrun
                    have hcl : cur'.length = cur.size := by rw [hcur']; simp; omega
                    -- the new memory
                    obtain ⟨mm, hmm⟩ : ∃ mm, mm = o + es.length * sz + es'.length * sz := ⟨_, rfl⟩
                    have hlow : ∀ j, j < o + es.length * sz → cur'[j]? = cur.toList[j]? := fun j hj => by
                      rw [hcur', List.append_assoc, List.getElem?_append_left (by simp; omega), List.getElem?_take, if_pos hj]
                    have hcurM : ∀ j x, M ⟨g, j, none⟩ = some x → j < o + es.length * sz ∧ cur.toList[j]? = some x := fun j x hx => by
                      have hlt : j < o + es.length * sz := by
                        rcases Nat.lt_or_ge j (o + es.length * sz) with h | h
                        · exact h
                        · rw [hnoM ⟨g, j, none⟩ rfl h] at hx; cases hx
                      have := hr.mem _ _ hx
                      unfold World.cell? at this
                      simp [hh] at this
                      exact ⟨hlt, by simpa using this⟩
                    have hgrow1 : Grows ρ M ρ (M.with g cur' mm) := Mem.grows_with (fun j x _ hx => by
                      obtain ⟨h1, h2⟩ := hcurM j x hx
                      rw [hlow j h1]; exact h2)
                    have hgrow : Grows ρ M (ρ.up n ⟨g, mm, (cap - es.length - es'.length) * sz⟩) (M.with g cur' mm) := hgrow1.trans (Names.grows_up _ _ _ _ hn)
                    have hother : ∀ b, b ≠ g → (w.setRow g cur'.toArray).heap[b]? = w.heap[b]? := fun b hb => by
                      simp [World.setRow, Array.getElem?_modify, Ne.symm hb]
                    have hnew : (w.setRow g cur'.toArray).heap[g]? = some (.cells cur'.toArray T (0, 0)) := setRow_heap w g cur _ T _ hh
                    have hMo : ∀ a : Addr, a.block ≠ g → (M.with g cur' mm) a = M a := fun a ha => by simp [Mem.with, ha]
                    have hown : Owned ρ σ g := ⟨m, _, by simp [hm], hpm, rfl⟩
                    refine ⟨_, _, ρ.up n ⟨g, mm, (cap - es.length - es'.length) * sz⟩, M.with g cur' mm, hrun, ?_, ?_, ?_⟩
                    · have hl' : es.length + es'.length = (es ++ es').length := by simp
                      rw [hl']
                      refine VR.sl_new (xs := cur'.drop o) (fun e he => ?_) ?_ (fun j hj => ?_) (by rw [← hl']; exact hroom) ⟨fun h => (by cases h), by simp⟩ (fun q hq => ?_)
                      · rcases List.mem_append.1 he with h | h
                        · exact hesk e h
                        · exact hesk' e h
                      · have : (cur'.drop o).take ((es ++ es').length * sz) = xs ++ ys := by
                          apply List.ext_getElem?
                          intro j
                          rw [List.getElem?_take, List.getElem?_drop]
                          have hsum : (es ++ es').length * sz = es.length * sz + es'.length * sz := by rw [← hl', Nat.add_mul]
                          split
                          · rename_i hj
                            by_cases hj1 : j < es.length * sz
                            · rw [List.getElem?_append_left (by omega), hlow _ (by omega)]
                              have hjx : j < xs.length := by omega
                              have := hcurM (o + j) _ (hold j xs[j] (List.getElem?_eq_getElem hjx))
                              rw [this.2, List.getElem?_eq_getElem hjx]
                            · rw [List.getElem?_append_right (by omega), hcur', List.append_assoc, List.getElem?_append_right (by simp; omega)]
                              rw [List.getElem?_append_left (by simp; omega)]
                              congr 1
                              simp; omega
                          · rename_i hj
                            rw [List.getElem?_eq_none (by simp; omega)]
                        rw [this, List.flatten_append]
                        exact (hvs.append hvs').mono hgrow
                      · rw [List.getElem?_drop]
                        refine Mem.with_get ?_
                        rw [hmm, ← hl', Nat.add_mul] at *
                        omega
                      · injection hq with hq; subst hq
                        rw [Names.up_same, hmm, ← hl']
                        congr 2
                        · rw [Nat.add_mul]; omega
                        · congr 1; omega
                    · refine (hr.le (Store.del_le σ m)).put hgrow (fun a x hx => ?_) (Names.up_same ..) ⟨cur'.toArray, T, hnew, ?_, fun a ha ho => ?_⟩ (fun q r hne hq hrq => ?_)
                      · by_cases ha : a.block = g
                        · unfold Mem.with at hx
                          split at hx
                          · rename_i hcnd
                            unfold World.cell?
                            rw [ha, hnew]
                            simpa [hcnd.2.1] using hx
                          · rename_i hcnd
                            have hsp : a.spot = none := by
                              have := hr.mem a x hx
                              unfold World.cell? at this
                              cases hsp : a.spot with
                              | none => rfl
                              | some _ => simp [ha, hh, hsp] at this
                            have ha' : a = ⟨g, a.off, none⟩ := by cases a; simp_all
                            have hlt := (hcurM a.off x (by rw [← ha']; exact hx)).1
                            exact absurd ⟨ha, hsp, by omega⟩ hcnd
                        · rw [hMo a ha] at hx
                          have := hr.mem a x hx
                          rw [← this]; unfold World.cell?; rw [hother _ ha]
                      · simp only [List.size_toArray, hcl, hmm]
                        omega
                      · have ha : a.block = g := ha
                        have ho : mm ≤ a.off := ho
                        have hno : ¬ (a.block = g ∧ a.spot = none ∧ a.off < mm) := fun h => by omega
                        unfold Mem.with
                        rw [if_neg hno]
                        exact hnoM a ha (by omega)
                      · have hqm : q ≠ m := fun e => by subst e; simp [Store.del] at hq
                        have hq' : (σ q).isSome = true := by simpa [Store.del, hqm] using hq
                        have hb : r.b ≠ g := fun e => hqm (hr.inj q m r _ hq' (by simp [hm]) hrq hpm e)
                        exact ⟨hb, hother _ hb, fun a ha hs => by rwa [hMo a (by rw [ha]; exact hb)] at hs⟩
                    · refine ⟨hgrow, by simp [World.setRow], rfl, rfl, rfl, fun b _ hb => hother b (fun e => hb (e ▸ hown)), fun b hb => ?_, fun a ha => ?_, fun q r hq hr' => ?_, ?dom⟩
                      case dom =>
                        intro q hq
                        by_cases e : q = n
                        · subst e; exact .inr hN
                        · rw [Store.up_get, if_neg e] at hq
                          have hqm : q ≠ m := fun e => by subst e; simp [Store.del] at hq
                          exact .inl (by simpa [Store.del, hqm] using hq)
                      · obtain ⟨q, r, hq, hrq, rfl⟩ := hb
                        by_cases e : q = n
                        · subst e; rw [Names.up_same] at hrq; injection hrq with hrq; subst hrq; exact .inr hown
                        · rw [Names.up_ne _ _ e] at hrq
                          rw [Store.up_get, if_neg e] at hq
                          have hqm : q ≠ m := fun e => by subst e; simp [Store.del] at hq
                          exact .inr ⟨q, r, by simpa [Store.del, hqm] using hq, hrq, rfl⟩
                      · by_cases e : a.block = g
                        · exact .inr (.inr (e ▸ hown))
                        · rw [hMo a e] at ha; exact .inl ha
                      · by_cases e : q = n
                        · subst e; exact hN
                        · rw [Names.up_ne _ _ e, hq] at hr'; cases hr'
                  · exact grow (σ.del m) (hr.le (Store.del_le _ _)) (Store.del_le _ _) (by omega)
                · cases h
              · cases h
            · cases h
        · cases h
      · cases h
    · cases h
  · cases h

end Go.Abs
