/- The row's premise on errors.errorType, and the lifting of contracts that need it. -/
import Derived.Test.YtnanajdckbfamaaGreatDoorX12
import Derived.Test.YtnanajdckbfamaaGreatDoorMB
import Derived.Test.YtnanajdckbfamaaGreatDoorRows
import Derived.ChangeSame
import Derived.ChangeVars
import Derived.JoinedOf
import Derived.RowKit
import Derived.RowKitTokens
import Derived.LaidLaws
import Derived.LaidHandle
import Derived.Stop.Joined
set_option linter.unusedVariables false
set_option linter.unusedSimpArgs false
set_option maxRecDepth 100000
namespace Go.Proofs
open Go Go.Abs Go.ChangeShapes Go.WideShapes Go.ChangeAt Go.RowKit
theorem PureG.calls {f : FuncId} {avs : List AV} {v : AV} (h : PureG f avs v) {W : World} {vs : List Value} {o : Obj} (hgo : errGlob o) (h0 : W.heap[0]? = some o) (hv : VRs noNames (memOf W) avs vs) :
    Calls Tryz.prog f vs.toArray W fun e W' => (∃ ρ M x, e = .returned x ∧ VR ρ M v x) ∧ Below W.heap.size W W' := by
  have hroot : ∀ n : Nm, n.under ((Nm.root).sub 1) = true → ¬ n = (Nm.root).sub 0 := fun n hn e => by subst e; simp [Nm.under] at hn
  have hr : Rel (fun n => if n = (Nm.root).sub 0 then some ⟨0, 0, 0⟩ else none) (memOf W) (fun n => if n = (Nm.root).sub 0 then some (.glob 0 o) else none) W := by
    refine ⟨fun a x h => h, fun n o' hn => ?_, fun n m p q h1 h2 _ _ _ => ?_⟩
    · split at hn
      · rename_i e; injection hn with hn; subst hn
        exact ⟨⟨0, 0, 0⟩, by rw [if_pos e], rfl, h0⟩
      · cases hn
    · split at h1
      · rename_i e
        split at h2
        · rename_i e'; rw [e, e']
        · cases h2
      · cases h1
  have hv' : VRs (fun n => if n = (Nm.root).sub 0 then some ⟨0, 0, 0⟩ else none) (memOf W) avs vs := hv.mono ⟨fun n p h => (by cases h), fun a x h => h⟩
  have hg : (fun n => if n = (Nm.root).sub 0 then some (AObj.glob 0 o) else none) ((Nm.root).sub 0) = some (.glob 0 o) := if_pos rfl
  refine ((h (fun n => if n = (Nm.root).sub 0 then some (.glob 0 o) else none) ((Nm.root).sub 1) ((Nm.root).sub 0) o hgo hg).2 _ (memOf W) W vs hr (fun n hn => if_neg (hroot n hn)) hv').mono ?_
  rintro e W' ⟨ae, σ', ρ', M', he, ⟨rfl, rfl⟩, hr', hev⟩
  refine ⟨?_, hev.os, hev.tape, hev.output, hev.size, fun k hk => ?_⟩
  · cases he with
    | ret hx => exact ⟨_, _, _, rfl, hx⟩
  · by_cases hk0 : k = 0
    · subst hk0
      obtain ⟨p, hp, hp0, hh⟩ := hr'.lies _ _ hg
      rw [hp0] at hh
      rw [hh, h0]
    · refine hev.keep k hk fun ⟨n, p, hn, hp, hpb⟩ => ?_
      simp only at hp
      split at hp
      · injection hp with hp; subst hp; exact hk0 hpb.symm
      · cases hp
theorem Tryz.et : Tryz.prog.globalNamed "errors.errorType" = some 0 := by kernel_rfl
theorem Tryz.rt : (Tryz.prog.cutTypes.find? (·.1 == "internal/reflectlite.rtype")).map (·.2) = some 172 := by kernel_rfl
theorem Tryz.size : Tryz.prog.types.size = 235 := by kernel_rfl
theorem Tryz.oneRow : ((List.range 235).filter fun t => Tryz.prog.rowNamed t [101, 114, 114, 111, 114]) = [121] := by kernel_rfl
def laid13 : List (String × DataW Unit) := [("errors.errorType", .iface "internal/reflectlite.rtype" (.agg [.ptr (.lit (.string [101, 114, 114, 111, 114]))]))]
/-- What the condition gives a walk: the variable's one cell. -/
theorem handle_of_laid {W : World} (h : laidMetH Tryz.prog laid13 W) : W.cell? ⟨0, 0, none⟩ = some (.iface 172 (.agg #[.pointer (some ⟨1, 121, none⟩)])) := by
  have h' : laidMet Tryz.prog [] W ∧ handlesMet Tryz.prog laid13 W := h
  obtain ⟨name, u, ty, e1, e2, e3, e4, e5⟩ := h'.2 _ (List.mem_singleton.2 rfl)
  have en : name = [101, 114, 114, 111, 114] := (Option.some.inj e1).symm
  subst en
  obtain rfl := Option.some.inj (Tryz.rt.symm.trans e2)
  have hm : ty ∈ (List.range 235).filter fun t => Tryz.prog.rowNamed t [101, 114, 114, 111, 114] := List.mem_filter.2 ⟨List.mem_range.2 (by rw [← Tryz.size]; exact e3), e4⟩
  rw [Tryz.oneRow] at hm
  obtain rfl := List.mem_singleton.1 hm
  have hh : typeHandle Tryz.prog 121 = .pointer (some ⟨1, 121, none⟩) := by kernel_rfl
  rw [hh] at e5
  simpa using World.var?_cell Tryz.et e5 0
theorem glob_of_laid {W : World} (h : laidMetH Tryz.prog laid13 W) : ∃ o, W.heap[0]? = some o ∧ errGlob o := by
  have hc := handle_of_laid h
  unfold World.cell? at hc
  split at hc
  · rename_i cs T fz ho
    simp at hc
    exact ⟨_, ho, cs, T, fz, rfl, hc⟩
  · cases hc
/-- A world that meets the condition: the settled one, the variable's cell laid. -/
noncomputable def laidWorld (os : Os) : World :=
  let w0 := World.holding Tryz.prog os ⟨#[], #[], []⟩
  { w0 with heap := w0.heap.modify 0 fun
      | .cells _ t frozen => .cells #[.iface 172 (.agg #[.pointer (some ⟨1, 121, none⟩)])] t frozen
      | o => o }
theorem laidWorld_met (os : Os) (args : Array Value) : laidMetH Tryz.prog laid13 ((laidWorld os).forCall (fun _ _ => 0) ⟨#[], args, []⟩).memory :=
  laidMetH_of_parts (laidMet_nil _ _) (by kernel_rfl)
theorem lifted_of_pureG {H : Type} {enc : TypeId × Value → H} {os : Os} {f : FuncId} {fn : Func} {s : ChangeSpec} {conds : List PathCond} {apart fresh handsOn again : Bool} {tb : TypeId}
    (own : ownKnob Tryz.checked.prog.godebug = none) (started : os.Started) (noInit : Tryz.checked.prog.inits.idxOf? f = none) (hfn : Tryz.checked.prog.funcs[f]? = some fn)
    (witness : ∃ (w : World) (tape : Tape) (i : Input), w.os = os ∧ (w.forCall tape i).Shaped Tryz.checked.prog ∧ i.vars = [] ∧ Input.okWide Tryz.checked.prog (w.forCall tape i) .any w.heap.size f i ∧
      ((s.pre enc Tryz.checked.prog fn conds apart (w.forCall tape i).memory i.args ∧ laidMetH Tryz.checked.prog laid13 (w.forCall tape i).memory) ∧ sizedMet enc Tryz.checked.prog fn (OpenSpec.ofChange s) apart (w.forCall tape i).memory i.args) ∧
      ({} : Assume).holds Tryz.checked.prog (lone (Frame.enter Tryz.checked.prog f i.args .normal) [] (w.forCall tape i)))
    (hl : laidOutB Tryz.checked.prog = true) (hts : ∀ t ∈ fn.params.toList, Tryz.checked.prog.readableRec t = true ∧ t < Tryz.checked.prog.types.size) (hvars : s.vars = []) (hres : fn.resultTypes = #[tb]) (htb : Tryz.checked.prog.underlying tb = some .bool)
    (hspec : ∀ ds : List (DataW H), ds.length = fn.params.toList.length → s.fn H ds = { results := [.lit (.bool true)], args := ds })
    (walk : ∀ (W : World) (base : Nat) (args : Array Value) (ds : List (DataW H)) (ps : List MemPlace), (∀ (j : Nat) t v, fn.params[j]? = some t → args[j]? = some v → Value.okWide Tryz.checked.prog W .any base t v) →
      DataW.TrodAll enc Tryz.checked.prog W 0 (fun _ => true) true fn.params.toList args.toList ds ps → ∃ avs, VRs noNames (memOf W) avs args.toList ∧ PureG f avs (.bool true)) :
    ReturnsInHanded {} Tryz.checked os f .any (fun w args => (s.pre enc Tryz.checked.prog fn conds apart w args ∧ laidMetH Tryz.checked.prog laid13 w) ∧ sizedMet enc Tryz.checked.prog fn (OpenSpec.ofChange s) apart w args) (s.post enc Tryz.checked.prog fn apart fresh handsOn again) := by
  refine returnsInHanded_of_change_and (C := Tryz.checked) (X := fun w _ => laidMetH Tryz.checked.prog laid13 w) (fun _ _ _ hh h => h.of_heap hh) own started noInit hfn witness ?_
  intro W base args ds gs before hval hW _ _ hL _
  have hlen : ds.length = fn.params.toList.length := by
    obtain ⟨p, q, hA, _⟩ := hW
    exact lifted_of_pure.len hA
  obtain ⟨p, q, hA, hV, rfl, hfz, hnd⟩ := id hW
  obtain ⟨avs, hv, hp⟩ := walk W base args ds p hval hA
  obtain ⟨o, h0, hgo⟩ := glob_of_laid hL
  have := hp.calls hgo h0 hv
  rw [Array.toArray_toList] at this
  refine this.mono ?_
  rintro e W' ⟨⟨ρ, M, x, rfl, hx⟩, hb⟩
  cases hx
  exact ⟨_, rfl, post_of_law hl hts hvars hres htb (hspec ds hlen) hW hb⟩
end Go.Proofs
