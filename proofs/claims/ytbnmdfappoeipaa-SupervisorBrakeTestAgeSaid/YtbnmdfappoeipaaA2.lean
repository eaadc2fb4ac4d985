/- How the relation between abstract stores and memory is carried over allocations and stores. -/
import Derived.Test.YtbnmdfappoeipaaA1
import Derived.Laws.CopyRow
set_option linter.unusedVariables false
set_option linter.unusedSimpArgs false
namespace Go.Abs

theorem cell?_eq_none_of_ge {w : World} {a : Addr} (h : w.heap.size ≤ a.block) : w.cell? a = none := by
  unfold World.cell?; rw [Array.getElem?_eq_none h]
theorem Rel.mem_lt {ρ : Names} {M : Mem} {σ : Store} {w : World} (h : Rel ρ M σ w) {a : Addr} (ha : (M a).isSome = true) : a.block < w.heap.size := by
  obtain ⟨x, hx⟩ := Option.isSome_iff_exists.1 ha
  exact World.block_lt_of_cell? _ _ (h.mem a x hx)
theorem Rel.mem_none {ρ : Names} {M : Mem} {σ : Store} {w : World} (h : Rel ρ M σ w) {a : Addr} (ha : w.heap.size ≤ a.block) : M a = none := by
  cases hx : M a with
  | none => rfl
  | some x => have := h.mem_lt (a := a) (by simp [hx]); omega

theorem OR.mono {ρ ρ' : Names} {M M' : Mem} {w w' : World} {p : Pl} {o : AObj} (h : OR ρ M w p o) (hg : Grows ρ M ρ' M') (hb : w'.heap[p.b]? = w.heap[p.b]?)
    (hM : ∀ a : Addr, a.block = p.b → (M' a).isSome = true → (M a).isSome = true) : OR ρ' M' w' p o := by
  have hnone : ∀ a : Addr, a.block = p.b → M a = none → M' a = none := fun a ha hm => by
    cases hx : M' a with
    | none => rfl
    | some x => have := hM a ha (by simp [hx]); simp [hm] at this
  cases o with
  | var cs =>
    obtain ⟨h0, xs, T, hh, hv, hm⟩ := h
    exact ⟨h0, xs, T, hb.trans hh, hv.mono hg, fun a ha => hnone a ha (hm a ha)⟩
  | tok =>
    obtain ⟨xs, T, hh, hl, hm⟩ := h
    exact ⟨xs, T, hb.trans hh, hl, fun a ha ho => hnone a ha (hm a ha ho)⟩
  | map es =>
    obtain ⟨xs, c, hh, hl, hv⟩ := h
    exact ⟨xs, c, hb.trans hh, hl, fun i e x he hx => ⟨(hv i e x he hx).1.mono hg, (hv i e x he hx).2.mono hg⟩⟩
  | other o => exact hb.trans h

def Names.up (ρ : Names) (n : Nm) (p : Pl) : Names := fun m => if m = n then some p else ρ m
theorem Names.up_same (ρ : Names) (n : Nm) (p : Pl) : (ρ.up n p) n = some p := by simp [Names.up]
theorem Names.up_ne (ρ : Names) {n m : Nm} (p : Pl) (h : m ≠ n) : (ρ.up n p) m = ρ m := by simp [Names.up, h]
theorem Names.grows_up (ρ : Names) (M : Mem) (n : Nm) (p : Pl) (h : ρ n = none) : Grows ρ M (ρ.up n p) M :=
  ⟨fun m q hq => by
    by_cases e : m = n
    · subst e; rw [h] at hq; cases hq
    · rw [Names.up_ne _ _ e]; exact hq, fun _ _ h => h⟩

/-- One variable is new, or has turned. -/
theorem Rel.put {ρ ρ' : Names} {M M' : Mem} {σ : Store} {w w' : World} {n0 : Nm} {o0 : AObj} {p0 : Pl} (h : Rel ρ M σ w) (hg : Grows ρ M ρ' M')
    (hM : ∀ a x, M' a = some x → w'.cell? a = some x) (hp : ρ' n0 = some p0) (ho : OR ρ' M' w' p0 o0)
    (hk : ∀ n p, n ≠ n0 → (σ n).isSome = true → ρ n = some p → p.b ≠ p0.b ∧ w'.heap[p.b]? = w.heap[p.b]? ∧ ∀ a : Addr, a.block = p.b → (M' a).isSome = true → (M a).isSome = true) :
    Rel ρ' M' (σ.up n0 o0) w' := by
  refine ⟨hM, fun n o hn => ?_, fun n m p q hn hm hpn hqm e => ?_⟩
  · by_cases e : n = n0
    · subst e
      simp only [Store.up_same, Option.some.injEq] at hn
      subst hn
      exact ⟨p0, hp, ho⟩
    · rw [Store.up_get, if_neg e] at hn
      obtain ⟨p, hpn, hor⟩ := h.lies n o hn
      have hh := hk n p e (by simp [hn]) hpn
      exact ⟨p, hg.names _ _ hpn, hor.mono hg hh.2.1 hh.2.2⟩
  · have back : ∀ n p, n ≠ n0 → ((σ.up n0 o0) n).isSome = true → ρ' n = some p → (σ n).isSome = true ∧ ρ n = some p := fun n p hne hn hp => by
      rw [Store.up_get, if_neg hne] at hn
      obtain ⟨o, ho⟩ := Option.isSome_iff_exists.1 hn
      obtain ⟨q, hq, _⟩ := h.lies n o ho
      have := hg.names _ _ hq
      rw [hp] at this; injection this with this; subst this
      exact ⟨hn, hq⟩
    by_cases e1 : n = n0
    · by_cases e2 : m = n0
      · rw [e1, e2]
      · obtain ⟨hm', hq'⟩ := back m q e2 hm hqm
        rw [e1, hp] at hpn; injection hpn with hpn; subst hpn
        exact absurd e.symm (hk m q e2 hm' hq').1
    · by_cases e2 : m = n0
      · obtain ⟨hn', hp'⟩ := back n p e1 hn hpn
        rw [e2, hp] at hqm; injection hqm with hqm; subst hqm
        exact absurd e (hk n p e1 hn' hp').1
      · obtain ⟨hn', hp'⟩ := back n p e1 hn hpn
        obtain ⟨hm', hq'⟩ := back m q e2 hm hqm
        exact h.inj n m p q hn' hm' hp' hq' e
/-- No variable is new. -/
theorem Rel.stay {ρ ρ' : Names} {M M' : Mem} {σ : Store} {w w' : World} (h : Rel ρ M σ w) (hg : Grows ρ M ρ' M')
    (hM : ∀ a x, M' a = some x → w'.cell? a = some x)
    (hk : ∀ n p, (σ n).isSome = true → ρ n = some p → w'.heap[p.b]? = w.heap[p.b]? ∧ ∀ a : Addr, a.block = p.b → (M' a).isSome = true → (M a).isSome = true) :
    Rel ρ' M' σ w' := by
  refine ⟨hM, fun n o hn => ?_, fun n m p q hn hm hpn hqm e => ?_⟩
  · obtain ⟨p, hpn, hor⟩ := h.lies n o hn
    have hh := hk n p (by simp [hn]) hpn
    exact ⟨p, hg.names _ _ hpn, hor.mono hg hh.1 hh.2⟩
  · have back : ∀ n p, (σ n).isSome = true → ρ' n = some p → ρ n = some p := fun n p hn hp => by
      obtain ⟨o, ho⟩ := Option.isSome_iff_exists.1 hn
      obtain ⟨q, hq, _⟩ := h.lies n o ho
      have := hg.names _ _ hq
      rw [hp] at this; injection this with this; subst this; exact hq
    exact h.inj n m p q hn hm (back n p hn hpn) (back m q hm hqm) e

theorem Rel.drew {ρ : Names} {M : Mem} {σ : Store} {w : World} (h : Rel ρ M σ w) (k : Nat) : Rel ρ M σ { w with drawn := k } :=
  h.stay .refl h.mem (fun n p _ _ => ⟨rfl, fun a _ ha => ha⟩)
theorem Evo.drew {NS : Nm → Prop} {ρ : Names} {M : Mem} {σ : Store} {w : World} (k : Nat) : Evo NS ρ M σ w ρ M σ { w with drawn := k } :=
  ⟨.refl, Nat.le_refl _, rfl, rfl, rfl, fun _ _ _ => rfl, fun _ h => .inr h, fun _ h => .inl h, fun n p h h' => (by rw [h] at h'; cases h'), fun _ h => .inl h⟩

theorem heap_alloc_new (w : World) (o : Obj) : (w.alloc o).heap[w.heap.size]? = some o := by simp [World.alloc, -World.alloc_eq]
theorem heap_alloc_old (w : World) (o : Obj) {b : Nat} (h : b < w.heap.size) : (w.alloc o).heap[b]? = w.heap[b]? := by
  simp [World.alloc, Array.getElem?_push, Nat.ne_of_lt h, -World.alloc_eq]
theorem cell?_alloc_mono {w : World} {o : Obj} {a : Addr} {x : Value} (h : w.cell? a = some x) : (w.alloc o).cell? a = some x := by
  rw [World.cell?_alloc_lt _ _ _ (World.block_lt_of_cell? _ _ h)]; exact h

/-- A new block for a new variable (any object that is told by the store). -/
theorem Rel.alloc {ρ : Names} {M : Mem} {σ : Store} {w : World} {n : Nm} {o : AObj} {ob : Obj} {NS : Nm → Prop} (k : Nat) (h : Rel ρ M σ w) (hn : ρ n = none) (hN : NS n)
    (ho : OR (ρ.up n ⟨w.heap.size, 0, k⟩) M (w.alloc ob) ⟨w.heap.size, 0, k⟩ o) :
    Rel (ρ.up n ⟨w.heap.size, 0, k⟩) M (σ.up n o) (w.alloc ob) ∧ Evo NS ρ M σ w (ρ.up n ⟨w.heap.size, 0, k⟩) M (σ.up n o) (w.alloc ob) := by
  have hg := Names.grows_up ρ M n ⟨w.heap.size, 0, k⟩ hn
  refine ⟨h.put hg (fun a x hx => cell?_alloc_mono (h.mem a x hx)) (Names.up_same ..) ho (fun m p hne hm hp => ?_), ?_⟩
  · have hlt := h.owned_lt ⟨m, p, hm, hp, rfl⟩
    exact ⟨Nat.ne_of_lt hlt, heap_alloc_old _ _ hlt, fun a _ ha => ha⟩
  · refine ⟨hg, by simp, rfl, rfl, rfl, fun b hb _ => heap_alloc_old _ _ hb, fun b hb => ?_, fun a ha => .inl ha, fun m p hm hp => ?_, ?dom⟩
    case dom =>
      intro m hm
      by_cases e : m = n
      · subst e; exact .inr hN
      · rw [Store.up_get, if_neg e] at hm; exact .inl hm
    · obtain ⟨m, p, hm, hp, rfl⟩ := hb
      by_cases e : m = n
      · subst e; rw [Names.up_same] at hp; injection hp with hp; subst hp; exact .inl (Nat.le_refl _)
      · rw [Names.up_ne _ _ e] at hp; rw [Store.up_get, if_neg e] at hm
        exact .inr ⟨m, p, hm, hp, rfl⟩
    · by_cases e : m = n
      · subst e; exact hN
      · rw [Names.up_ne _ _ e, hm] at hp; cases hp

theorem Rel.alloc_var {ρ : Names} {M : Mem} {σ : Store} {w : World} {n : Nm} {cs : List AV} {xs : List Value} {NS : Nm → Prop} (T : TypeId) (h : Rel ρ M σ w) (hn : ρ n = none) (hN : NS n) (hv : VRs ρ M cs xs) :
    Rel (ρ.up n ⟨w.heap.size, 0, 0⟩) M (σ.up n (.var cs)) (w.alloc (.cells xs.toArray T)) ∧ Evo NS ρ M σ w (ρ.up n ⟨w.heap.size, 0, 0⟩) M (σ.up n (.var cs)) (w.alloc (.cells xs.toArray T)) :=
  h.alloc 0 hn hN ⟨rfl, xs, T, heap_alloc_new _ _, hv.mono (Names.grows_up ρ M n _ hn), fun a ha => h.mem_none (by rw [ha]; exact Nat.le_refl _)⟩

/-- The cells of a variable are set anew. -/
theorem Rel.setRow_var {ρ : Names} {M : Mem} {σ : Store} {w : World} {n : Nm} {cs cs' : List AV} {p : Pl} {xs' : List Value} {cur : Array Value} {T : TypeId} {NS : Nm → Prop} (h : Rel ρ M σ w)
    (hn : σ n = some (.var cs)) (hp : ρ n = some p) (hh : w.heap[p.b]? = some (.cells cur T (0, 0))) (hv : VRs ρ M cs' xs') :
    Rel ρ M (σ.up n (.var cs')) (w.setRow p.b xs'.toArray) ∧ Evo NS ρ M σ w ρ M (σ.up n (.var cs')) (w.setRow p.b xs'.toArray) := by
  obtain ⟨q, hq, h0, ys, T', hh', _, hm⟩ := h.lies n _ hn
  rw [hp] at hq; injection hq with hq; subst hq
  have hown : Owned ρ σ p.b := ⟨n, p, by simp [hn], hp, rfl⟩
  have hother : ∀ b, b ≠ p.b → (w.setRow p.b xs'.toArray).heap[b]? = w.heap[b]? := fun b hb => by
    simp [World.setRow, Array.getElem?_modify, Ne.symm hb]
  have hmem : ∀ a x, M a = some x → (w.setRow p.b xs'.toArray).cell? a = some x := fun a x hx => by
    have hne : a.block ≠ p.b := fun e => by rw [hm a e] at hx; cases hx
    have := h.mem a x hx
    rw [← this]; unfold World.cell?; rw [hother _ hne]
  refine ⟨h.put .refl hmem hp ⟨h0, xs', T, setRow_heap w p.b cur _ T _ hh, hv, hm⟩ (fun m q hne hm' hq => ?_), ?_⟩
  · have : q.b ≠ p.b := fun e => hne (h.inj m n q p hm' (by simp [hn]) hq hp e)
    exact ⟨this, hother _ this, fun a _ ha => ha⟩
  · refine ⟨.refl, by simp [World.setRow], rfl, rfl, rfl, fun b _ hb => hother b (fun e => hb (e ▸ hown)), fun b hb => ?_, fun a ha => .inl ha, fun m p hm hp => (by rw [hm] at hp; cases hp), ?dom⟩
    case dom =>
      intro m hm
      by_cases e : m = n
      · subst e; exact .inl (by simp [hn])
      · rw [Store.up_get, if_neg e] at hm; exact .inl hm
    obtain ⟨m, q, hm', hq, rfl⟩ := hb
    by_cases e : m = n
    · subst e; rw [hp] at hq; injection hq with hq; subst hq; exact .inr hown
    · rw [Store.up_get, if_neg e] at hm'; exact .inr ⟨m, q, hm', hq, rfl⟩

/-- Memory that has come to be stable: the first m cells of block b. -/
def Mem.with (M : Mem) (b : Nat) (xs : List Value) (m : Nat) : Mem := fun a => if a.block = b ∧ a.spot = none ∧ a.off < m then xs[a.off]? else M a
theorem Mem.with_get {M : Mem} {b : Nat} {xs : List Value} {m i : Nat} (h : i < m) : (M.with b xs m) ⟨b, i, none⟩ = xs[i]? := by simp [Mem.with, h]
theorem Mem.grows_with {ρ : Names} {M : Mem} {b : Nat} {xs : List Value} {m : Nat} (h : ∀ (i : Nat) (x : Value), i < m → M ⟨b, i, none⟩ = some x → xs[i]? = some x) : Grows ρ M ρ (M.with b xs m) :=
  ⟨fun _ _ h => h, fun a x hx => by
    unfold Mem.with
    split
    · rename_i hc
      obtain ⟨h1, h2, h3⟩ := hc
      have : a = ⟨b, a.off, none⟩ := by cases a; simp_all
      exact h a.off x h3 (by rw [← this]; exact hx)
    · exact hx⟩

/-- A new block, stable from the beginning in its first m cells; what follows is left to a token (or to nobody). -/
theorem Rel.alloc_stable {ρ : Names} {M : Mem} {σ : Store} {w : World} {NS : Nm → Prop} (xs : List Value) (T : TypeId) (m : Nat) (h : Rel ρ M σ w) :
    Rel ρ (M.with w.heap.size xs m) σ (w.alloc (.cells xs.toArray T)) ∧ Evo NS ρ M σ w ρ (M.with w.heap.size xs m) σ (w.alloc (.cells xs.toArray T)) := by
  have hg : Grows ρ M ρ (M.with w.heap.size xs m) := Mem.grows_with (fun i x _ hx => by
    rw [h.mem_none (a := ⟨w.heap.size, i, none⟩) (Nat.le_refl _)] at hx; cases hx)
  have hnew : ∀ a : Addr, a.block ≠ w.heap.size → (M.with w.heap.size xs m) a = M a := fun a ha => by simp [Mem.with, ha]
  refine ⟨h.stay hg (fun a x hx => ?_) (fun n p hn hp => ?_), hg, by simp, rfl, rfl, rfl, fun b hb _ => heap_alloc_old _ _ hb, fun b hb => .inr hb, fun a ha => ?_, fun n p hn hp => (by rw [hn] at hp; cases hp), fun _ h => .inl h⟩
  · by_cases e : a.block = w.heap.size
    · unfold Mem.with at hx
      split at hx
      · rename_i hc
        unfold World.cell?
        rw [e, heap_alloc_new]
        simp [hc.2.1, hx]
      · rw [h.mem_none (by omega)] at hx; cases hx
    · rw [hnew a e] at hx
      exact cell?_alloc_mono (h.mem a x hx)
  · have hlt := h.owned_lt ⟨n, p, hn, hp, rfl⟩
    exact ⟨heap_alloc_old _ _ hlt, fun a ha hs => by rwa [hnew a (by omega)] at hs⟩
  · by_cases e : a.block = w.heap.size
    · exact .inr (.inl (by omega))
    · rw [hnew a e] at ha; exact .inl ha

/-- .. with a token for what follows. -/
theorem Rel.alloc_tok {ρ : Names} {M : Mem} {σ : Store} {w : World} {NS : Nm → Prop} {n : Nm} (xs : List Value) (T : TypeId) (m k : Nat) (h : Rel ρ M σ w) (hn : ρ n = none) (hN : NS n) (hk : m + k ≤ xs.length) :
    Rel (ρ.up n ⟨w.heap.size, m, k⟩) (M.with w.heap.size xs m) (σ.up n .tok) (w.alloc (.cells xs.toArray T)) ∧
      Evo NS ρ M σ w (ρ.up n ⟨w.heap.size, m, k⟩) (M.with w.heap.size xs m) (σ.up n .tok) (w.alloc (.cells xs.toArray T)) := by
  obtain ⟨hr, he⟩ := h.alloc_stable (NS := NS) xs T m
  have hg := Names.grows_up ρ (M.with w.heap.size xs m) n ⟨w.heap.size, m, k⟩ hn
  refine ⟨hr.put hg hr.mem (Names.up_same ..) ⟨xs.toArray, T, heap_alloc_new _ _, by simpa using hk, fun a ha ho => ?_⟩ (fun j p hne hj hp => ?_), ?_⟩
  · have : ¬ a.off < m := by simpa using ho
    simp only [Mem.with, this, and_false, if_false]
    exact h.mem_none (by rw [ha]; exact Nat.le_refl _)
  · have hlt := h.owned_lt ⟨j, p, hj, hp, rfl⟩
    exact ⟨Nat.ne_of_lt hlt, rfl, fun a _ ha => ha⟩
  · refine ⟨he.grows.trans hg, he.size, he.os, he.tape, he.output, he.keep, fun b hb => ?_, he.memNew, fun j p hj hp => ?_, ?dom⟩
    case dom =>
      intro j hj
      by_cases e : j = n
      · subst e; exact .inr hN
      · rw [Store.up_get, if_neg e] at hj; exact .inl hj
    · obtain ⟨j, p, hj, hp, rfl⟩ := hb
      by_cases e : j = n
      · subst e; rw [Names.up_same] at hp; injection hp with hp; subst hp; exact .inl (Nat.le_refl _)
      · rw [Names.up_ne _ _ e] at hp; rw [Store.up_get, if_neg e] at hj; exact .inr ⟨j, p, hj, hp, rfl⟩
    · by_cases e : j = n
      · subst e; exact hN
      · rw [Names.up_ne _ _ e, hj] at hp; cases hp

end Go.Abs
