/- What the laws' arguments are read as. -/
import Derived.Test.YtbnmdfappoeipaaM4
import Derived.Test.YtbnmdfappoeipaaRows
set_option linter.unusedVariables false
namespace Go.Abs
theorem Reads.arg_bool {P : Program} {t : TypeId} {α : Type} {c : α → AV} {wf : α → Prop} (ht : P.underlying t = some .bool) (h : Reads P t (fun a => [c a]) wf) : ArgReads P t c wf := ⟨fun {H enc w base v d ps} ho hd => by
  obtain ⟨b, rfl⟩ := Go.WideShapes.okWide_bool ht ho
  obtain ⟨fuel, hf⟩ := hd
  obtain ⟨a, ha, hv⟩ := h.read hf
  exact ⟨a, ha, by simpa [Value.cells] using hv.head⟩⟩
end Go.Abs
namespace Go.Proofs
open Go Go.Abs
theorem Try.own : ownKnob Try.prog.godebug = none := by kernel_rfl
theorem Try.laidOut : laidOutB Try.prog = true := by kernel_rfl
def inI (n : Int) : Prop := IntKind.i64.min ≤ n ∧ n ≤ IntKind.i64.max
theorem readsInt : Reads Try.prog 3 (fun n : Int => [.int .i64 n]) inI := .int Try.underlying3
theorem readsBool : Reads Try.prog 4 (fun b : Bool => [.bool b]) (fun _ => True) := .bool Try.underlying4
def fld (t : TypeId) (o : Nat) : Field := { name := "", type := t, offset := o, embedded := false, tag := "", pkgPath := "", byteOffset := 0 }
theorem fld2 {e k : Nat} (i : Nat) (f : Field) (h : [fld e 0, fld e (1 * k)][i]? = some f) : f.type = e ∧ f.offset = i * k := by
  match i, h with
  | 0, h => cases h; exact ⟨rfl, (Nat.zero_mul k).symm⟩
  | 1, h => cases h; exact ⟨rfl, rfl⟩
theorem readsI2 : Reads Try.prog 23 (fun m : Int × Int => [.int .i64 m.1, .int .i64 m.2]) (fun _ => True) :=
  (Reads.array (fs := [fld 3 0, fld 3 (1 * 1)]) (k := 1) Try.underlying23 (by kernel_rfl) rfl fld2 (.cons (k := 1) rfl (by kernel_rfl) readsInt (.cons (k := 1) rfl (by kernel_rfl) readsInt (.nil _))) (by kernel_rfl)).map (fun x => ((x.1, x.2.1) : Int × Int)) (fun _ => rfl) (fun _ _ => trivial)
theorem readsVi : Reads Try.prog 28 Vi.cells (fun _ => True) :=
  (Reads.struct Try.underlying28 (.cons (k := 1) rfl (by kernel_rfl) readsInt (.cons (k := 1) rfl (by kernel_rfl) readsInt (.cons (k := 1) rfl (by kernel_rfl) readsInt (.cons (k := 1) rfl (by kernel_rfl) readsInt (.nil _))))) (by kernel_rfl)).map (fun x => (⟨x.1, x.2.1, x.2.2.1, x.2.2.2.1⟩ : Vi)) (fun _ => rfl) (fun _ _ => trivial)
theorem readsVs : Reads Try.prog 22 (fun l : List Vi => [.sl 4 (vcs l) .unk]) (fun l => l.length ≤ maxLen ∧ ∀ x ∈ l, True) := .slice Try.underlying22 (by kernel_rfl) (by omega) readsVi
theorem readsSS : Reads Try.prog 25 SS.cells (fun _ => True) :=
  (Reads.struct Try.underlying25 (.cons (k := 1) rfl (by kernel_rfl) readsInt (.cons (k := 1) rfl (by kernel_rfl) readsInt (.cons (k := 1) rfl (by kernel_rfl) readsInt (.cons (k := 1) rfl (by kernel_rfl) readsVs (.cons (k := 2) rfl (by kernel_rfl) readsI2 (.nil _)))))) (by kernel_rfl)).map (fun x => (⟨x.1, x.2.1, x.2.2.1, x.2.2.2.1, x.2.2.2.2.1.1, x.2.2.2.2.1.2⟩ : SS)) (fun _ => rfl) (fun _ _ => trivial)
theorem readsTk : Reads Try.prog 39 Tk.cells (fun _ => True) :=
  (Reads.struct Try.underlying39 (.cons (k := 1) rfl (by kernel_rfl) readsVs (.cons (k := 1) rfl (by kernel_rfl) readsInt (.cons (k := 1) rfl (by kernel_rfl) readsBool (.nil _)))) (by kernel_rfl)).map (fun x => (⟨x.1, x.2.1, x.2.2.1⟩ : Tk)) (fun _ => rfl) (fun _ _ => trivial)
theorem readsTs : Reads Try.prog 26 (fun l : List Tk => [.sl 3 (tcs l) .unk]) (fun l => l.length ≤ maxLen ∧ ∀ x ∈ l, True) := .slice Try.underlying26 (by kernel_rfl) (by omega) readsTk
theorem argSS : ArgReads Try.prog 25 SS.av (fun _ => True) := readsSS.arg_agg Try.underlying25
theorem argVi : ArgReads Try.prog 28 Vi.av (fun _ => True) := readsVi.arg_agg Try.underlying28
theorem argTk : ArgReads Try.prog 39 Tk.av (fun _ => True) := readsTk.arg_agg Try.underlying39
theorem argTs : ArgReads Try.prog 26 (fun l : List Tk => .sl 3 (tcs l) .unk) (fun l => l.length ≤ maxLen ∧ ∀ x ∈ l, True) := readsTs.arg_slice Try.underlying26
end Go.Proofs
