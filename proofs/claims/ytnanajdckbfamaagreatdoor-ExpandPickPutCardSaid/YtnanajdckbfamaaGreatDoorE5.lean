/- told, as a contract: what the function that it is handed returns or panics with. -/
import Derived.Test.YtnanajdckbfamaaGreatDoorMF
import Derived.Test.YtnanajdckbfamaaGreatDoorX7
import Derived.Below
set_option linter.unusedVariables false
set_option linter.unusedSimpArgs false
set_option maxRecDepth 100000
namespace Go.Proofs
open Go Go.Abs Go.Extern.Stop Go.Stop Go.Extern
/-- The cell that errors.As reads. -/
def errGlob (o : Obj) : Prop := ∃ cs T fz, o = .cells cs T fz ∧ cs[0]? = some (.iface 172 (.agg #[.pointer (some ⟨1, 121, none⟩)]))
theorem rel_off {ρ : Names} {M : Mem} {σ : Store} {w w' : World} {z : Nat} (hr : Rel ρ M σ w) (hs : ∀ b, b < w.heap.size → b ≠ z → w'.heap[b]? = w.heap[b]?) (hM : ∀ a : Addr, a.block = z → M a = none) (hO : ¬ Owned ρ σ z) : Rel ρ M σ w' := by
  refine hr.stay .refl (fun a x hx => ?_) (fun n p hn hp => ⟨hs _ ?_ ?_, fun _ _ h => h⟩)
  · have h1 := hr.mem a x hx
    have hlt : a.block < w.heap.size := World.block_lt_of_cell? _ _ h1
    have hne : a.block ≠ z := fun e => by rw [hM a e] at hx; cases hx
    rw [← h1]; unfold World.cell?; rw [hs _ hlt hne]
  · obtain ⟨o, ho⟩ := Option.isSome_iff_exists.1 hn
    exact hr.lt ho hp
  · intro e; exact hO ⟨n, p, hn, hp, e⟩
theorem asWorld_heap (w : World) (t : Addr) (k : Int) {b : Nat} (hb : b < w.heap.size) (hne : b ≠ t.block) : (asWorld w t k).heap[b]? = w.heap[b]? := by
  unfold asWorld
  rw [Go.RowKit.Below.heap_setCell _ _ _ _ hne, heap_alloc_old _ _ (by simp; omega), heap_alloc_old _ _ (by simp; omega), heap_alloc_old _ _ (by simp; omega), heap_alloc_old _ _ hb]
theorem asWorld_size (w : World) (t : Addr) (k : Int) : w.heap.size ≤ (asWorld w t k).heap.size := by
  unfold asWorld; simp [World.setCell]; omega
theorem told_calls {g : FuncId} {caps : List AV} {σ : Store} {ns : Nm} {R : AEnd → Store → Prop} {gl : Nm} {go : Obj} (hgo : errGlob go) (hg : σ gl = some (.glob 0 go))
    (h : ACalls Tryz.prog g caps σ (ns.sub 0) fun e σ' => (e = .ret (.tup []) ∧ R (.ret (.int .i64 0)) σ') ∨ ∃ k, e = .panic (errv k) ∧ σ' gl = σ gl ∧ R (.ret (.int .i64 k)) σ') :
    ACalls Tryz.prog 32 [.fn (.func g) [] caps] σ ns R := by
  refine ⟨Tryz.en32, fun ρ M w xs hr hfr hv => ?_⟩
  obtain ⟨x0, rfl⟩ : ∃ x, xs = [x] := by
    have := hv.len
    match xs, this with
    | [x], _ => exact ⟨x, rfl⟩
  have hx0 := hv.head
  cases hx0 with
  | fn hl1 hl2 h1 h2 =>
    rename_i fx cx
    have hfx : fx = #[] := by
      have : fx.size = 0 := by simpa using hl1.symm
      exact Array.eq_empty_of_size_eq_zero this
    subst hfx
    have hcx : VRs ρ M caps cx.toList := ⟨by simpa using hl2, fun i v x hv hx => h2 i v x hv (by simpa using hx)⟩
    have hsz : ∀ o : Obj, (w.alloc o).heap.size = w.heap.size + 1 := fun o => by simp [World.alloc, -World.alloc_eq]
    -- the variable's block is nobody's
    have hMz : ∀ a : Addr, a.block = w.heap.size → M a = none := fun a ha => hr.mem_none (by omega)
    have hOz : ¬ Owned ρ σ w.heap.size := fun ho => by have := hr.owned_lt ho; omega
    have hr1 : Rel ρ M σ (w.alloc (.cells #[.int .i64 0] 50)) := rel_off hr (fun b hb hne => heap_alloc_old _ _ hb) hMz hOz
    have hen := h.1
    have hc := h.2 ρ M _ cx.toList hr1 (fun n hn => hfr n (Nm.under_trans hn (by simp))) hcx
    rw [Array.toArray_toList] at hc
    have fin : ∀ {e : Ending} {w' : World} {ae : AEnd} {σ' : Store} {ρ' : Names} {M' : Mem}, Rel ρ' M' σ' w' → Evo (fun n => n.under (ns.sub 0) = true) ρ M σ (w.alloc (.cells #[.int .i64 0] 50)) ρ' M' σ' w' →
        (∃ old, w'.cell? ⟨w.heap.size, 0, none⟩ = some old) ∧ w'.frozen? ⟨w.heap.size, 0, none⟩ = false ∧ (∀ a : Addr, a.block = w.heap.size → M' a = none) ∧ ¬ Owned ρ' σ' w.heap.size := by
      intro e w' ae σ' ρ' M' hr' hev
      have hk : w'.heap[w.heap.size]? = some (.cells #[.int .i64 0] 50) := by
        rw [hev.keep _ (by rw [hsz]; omega) hOz]; exact heap_alloc_new _ _
      refine ⟨⟨.int .i64 0, by unfold World.cell?; rw [hk]; rfl⟩, by unfold World.frozen?; rw [hk]; rfl, fun a ha => ?_, fun ho => ?_⟩
      · cases hx : M' a with
        | none => rfl
        | some x =>
          rcases hev.memNew a (by simp [hx]) with h | h | h
          · rw [hMz a ha] at h; cases h
          · rw [hsz] at h; omega
          · exact absurd (ha ▸ h) hOz
      · rcases hev.own _ ho with h | h
        · rw [hsz] at h; omega
        · exact hOz h
    have evo : ∀ {w' w2 : World} {σ' : Store} {ρ' : Names} {M' : Mem}, Evo (fun n => n.under (ns.sub 0) = true) ρ M σ (w.alloc (.cells #[.int .i64 0] 50)) ρ' M' σ' w' → w'.heap.size ≤ w2.heap.size → w2.os = w'.os → w2.tape = w'.tape → w2.output = w'.output →
        (∀ b, b < w'.heap.size → b ≠ w.heap.size → w2.heap[b]? = w'.heap[b]?) → Evo (fun n => n.under ns = true) ρ M σ w ρ' M' σ' w2 := by
      intro w' w2 σ' ρ' M' hev g1 g2 g3 g4 g5
      have hs1 := hsz (.cells #[.int .i64 0] 50)
      refine ⟨hev.grows, by have := hev.size; omega, by rw [g2, hev.os]; rfl, by rw [g3, hev.tape]; rfl, by rw [g4, hev.output]; rfl, fun b hb ho => ?_, fun b hb => ?_, fun a ha => ?_, fun n p h1 h2 => Nm.under_trans (hev.names n p h1 h2) (by simp), fun n hn => (hev.dom n hn).imp id (fun h => Nm.under_trans h (by simp))⟩
      · rw [g5 b (by have := hev.size; omega) (by omega), hev.keep b (by omega) ho, heap_alloc_old _ _ hb]
      · rcases hev.own b hb with h | h
        · exact .inl (by omega)
        · exact .inr h
      · rcases hev.memNew a ha with h | h | h
        · exact .inl h
        · exact .inr (.inl (by omega))
        · exact .inr (.inr h)
    refine told_run g cx w hen _ _ hc ?_
    rintro e w' ⟨ae, σ', ρ', M', he, hR, hr', hev⟩
    obtain ⟨f1, f2, f3, f4⟩ := fin (e := e) (ae := ae) hr' hev
    rcases hR with ⟨rfl, hR⟩ | ⟨k, rfl, hgl, hR⟩
    · cases he with
      | ret hx =>
        refine .inl ⟨_, rfl, f1, f2, .ret (.int .i64 0), σ', ρ', M', .ret (.int _ _), hR, ?_, ?_⟩
        · exact rel_off hr' (fun b hb hne => Go.RowKit.Below.heap_setCell _ _ _ _ hne) f3 f4
        · exact evo hev (by simp [World.setCell]) rfl rfl rfl (fun b hb hne => Go.RowKit.Below.heap_setCell _ _ _ _ hne)
    · cases he with
      | panic hx =>
        cases hx with
        | ifc hx =>
          cases hx
          obtain ⟨cs, T, fz, rfl, hcs⟩ := hgo
          have hcell : w'.cell? ⟨0, 0, none⟩ = some (.iface 172 (.agg #[.pointer (some ⟨1, 121, none⟩)])) := by
            obtain ⟨p, hp, hp0, hh⟩ := hr'.lies gl _ (by rw [hgl]; exact hg)
            rw [hp0] at hh
            unfold World.cell?; rw [hh]; exact hcs
          refine .inr ⟨k, rfl, f1, f2, hcell, .ret (.int .i64 k), σ', ρ', M', .ret (.int _ _), hR, ?_, ?_⟩
          · exact rel_off hr' (fun b hb hne => asWorld_heap _ _ _ hb hne) f3 f4
          · exact evo hev (asWorld_size _ _ _) rfl rfl rfl (fun b hb hne => asWorld_heap _ _ _ hb hne)
/-- .. used. -/
theorem told_use {g : FuncId} {caps : List AV} {gl : Nm} {go : Obj} (hgo : errGlob go) {m : Nm} {dst : Option Tmp} {K : AS → Prop} {Q : AExit → AS → Prop} {s : AS} (hg : s.st gl = some (.glob 0 go))
    (h : ACalls Tryz.prog g caps s.st (m.sub 0) fun e σ' => (e = .ret (.tup []) ∧ K ((s.setSt σ').put dst (.int .i64 0))) ∨ ∃ k, e = .panic (errv k) ∧ σ' gl = s.st gl ∧ K ((s.setSt σ').put dst (.int .i64 k))) :
    CallK Tryz.prog 32 [.fn (.func g) [] caps] m dst K Q s := by
  refine CallK.of (R := fun e σ' => ∃ v, e = .ret v ∧ K ((s.setSt σ').put dst v)) (told_calls (gl := gl) hgo hg (h.mono ?_)) ?_ ?_
  · rintro e σ' (⟨rfl, hk⟩ | ⟨k, rfl, hgl, hk⟩)
    · exact .inl ⟨rfl, _, rfl, hk⟩
    · exact .inr ⟨k, rfl, hgl, _, rfl, hk⟩
  · rintro v σ' ⟨u, hv, hk⟩; injection hv with hv; subst hv; exact hk
  · rintro v σ' ⟨u, hv, _⟩; cases hv
end Go.Proofs
