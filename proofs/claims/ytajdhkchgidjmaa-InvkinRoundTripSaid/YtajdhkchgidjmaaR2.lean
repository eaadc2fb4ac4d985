/- What the laws' arguments are read as, further. -/
import Derived.Test.YtajdhkchgidjmaaR
set_option linter.unusedVariables false
namespace Go.Abs
theorem Reads.arg_bool {P : Program} {t : TypeId} {α : Type} {c : α → AV} {wf : α → Prop} (ht : P.underlying t = some .bool) (h : Reads P t (fun a => [c a]) wf) : ArgReads P t c wf := ⟨fun {H enc w base v d ps} ho hd => by
  obtain ⟨b, rfl⟩ := Go.WideShapes.okWide_bool ht ho
  obtain ⟨fuel, hf⟩ := hd
  obtain ⟨a, ha, hv⟩ := h.read hf
  exact ⟨a, ha, by simpa [Value.cells] using hv.head⟩⟩
end Go.Abs
namespace Go.Proofs
open Go Go.Abs
theorem readsBool : Reads Try.prog 4 (fun b : Bool => [.bool b]) (fun _ => True) := .bool Try.underlying4
theorem argBool : ArgReads Try.prog 4 (fun b : Bool => .bool b) (fun _ => True) := readsBool.arg_bool Try.underlying4
theorem readsI16 : Reads Try.prog 46 (fun n : Int => [.int .i16 n]) (fun n => IntKind.i16.min ≤ n ∧ n ≤ IntKind.i16.max) := .int Try.underlying46
theorem fld2 {e k : Nat} (i : Nat) (f : Field) (h : [fld e 0, fld e (1 * k)][i]? = some f) : f.type = e ∧ f.offset = i * k := by
  match i, h with
  | 0, h => cases h; exact ⟨rfl, (Nat.zero_mul k).symm⟩
  | 1, h => cases h; exact ⟨rfl, rfl⟩
theorem readsMv : Reads Try.prog 47 (fun m : V2 => [.int .i16 m.1, .int .i16 m.2]) (fun m => (-32768 ≤ m.1 ∧ m.1 ≤ 32767) ∧ -32768 ≤ m.2 ∧ m.2 ≤ 32767) :=
  (Reads.array (fs := [fld 46 0, fld 46 (1 * 1)]) (k := 1) Try.underlying47 (by kernel_rfl) rfl fld2 (.cons (k := 1) rfl (by kernel_rfl) readsI16 (.cons (k := 1) rfl (by kernel_rfl) readsI16 (.nil _))) (by kernel_rfl)).map (fun x => ((x.1, x.2.1) : V2)) (fun _ => rfl) (fun _ h => by
    have h1 := h.1; have h2 := h.2.1
    simp [IntKind.min, IntKind.max, IntKind.signed, IntKind.bits] at h1 h2
    exact ⟨h1, h2⟩)
theorem argMv : ArgReads Try.prog 47 (fun m : V2 => .agg [.int .i16 m.1, .int .i16 m.2]) (fun m => (-32768 ≤ m.1 ∧ m.1 ≤ 32767) ∧ -32768 ≤ m.2 ∧ m.2 ≤ 32767) := readsMv.arg_array Try.underlying47
end Go.Proofs
