/- What the laws' arguments are read as. -/
import Derived.Test.YtajdhkchgidjmaaM3
import Derived.Test.YtajdhkchgidjmaaRows
set_option linter.unusedVariables false
namespace Go.Proofs
open Go Go.Abs
theorem Try.own : ownKnob Try.prog.godebug = none := by kernel_rfl
theorem Try.laidOut : laidOutB Try.prog = true := by kernel_rfl
def inI (n : Int) : Prop := IntKind.i64.min ≤ n ∧ n ≤ IntKind.i64.max
theorem readsInt : Reads Try.prog 3 (fun n : Int => [.int .i64 n]) inI := .int Try.underlying3
theorem readsU8 : Reads Try.prog 5 (fun n : Int => [.int .u8 n]) (fun n => IntKind.u8.min ≤ n ∧ n ≤ IntKind.u8.max) := .int Try.underlying5
def fld (t : TypeId) (o : Nat) : Field := { name := "", type := t, offset := o, embedded := false, tag := "", pkgPath := "", byteOffset := 0 }
theorem fld3 {e k : Nat} (i : Nat) (f : Field) (h : [fld e 0, fld e (1 * k), fld e (2 * k)][i]? = some f) : f.type = e ∧ f.offset = i * k := by
  match i, h with
  | 0, h => cases h; exact ⟨rfl, (Nat.zero_mul k).symm⟩
  | 1, h => cases h; exact ⟨rfl, rfl⟩
  | 2, h => cases h; exact ⟨rfl, rfl⟩
theorem readsJ3 : Reads Try.prog 25 J3.cells (fun q => inI q.a ∧ inI q.b ∧ inI q.c) :=
  (Reads.array (fs := [fld 3 0, fld 3 (1 * 1), fld 3 (2 * 1)]) (k := 1) Try.underlying25 (by kernel_rfl) rfl fld3 (.cons (k := 1) rfl (by kernel_rfl) readsInt (.cons (k := 1) rfl (by kernel_rfl) readsInt (.cons (k := 1) rfl (by kernel_rfl) readsInt (.nil _)))) (by kernel_rfl)).map (fun x => (⟨x.1, x.2.1, x.2.2.1⟩ : J3)) (fun _ => rfl) (fun _ h => ⟨h.1, h.2.1, h.2.2.1⟩)
theorem readsL3 : Reads Try.prog 24 J3.cells (fun q => inI q.a ∧ inI q.b ∧ inI q.c) :=
  (Reads.array (fs := [fld 3 0, fld 3 (1 * 1), fld 3 (2 * 1)]) (k := 1) Try.underlying24 (by kernel_rfl) rfl fld3 (.cons (k := 1) rfl (by kernel_rfl) readsInt (.cons (k := 1) rfl (by kernel_rfl) readsInt (.cons (k := 1) rfl (by kernel_rfl) readsInt (.nil _)))) (by kernel_rfl)).map (fun x => (⟨x.1, x.2.1, x.2.2.1⟩ : J3)) (fun _ => rfl) (fun _ h => ⟨h.1, h.2.1, h.2.2.1⟩)
theorem readsRaw : Reads Try.prog 30 (fun r : J3 => [.int .u8 r.a, .int .u8 r.b, .int .u8 r.c]) rawOk :=
  (Reads.array (fs := [fld 5 0, fld 5 (1 * 1), fld 5 (2 * 1)]) (k := 1) Try.underlying30 (by kernel_rfl) rfl fld3 (.cons (k := 1) rfl (by kernel_rfl) readsU8 (.cons (k := 1) rfl (by kernel_rfl) readsU8 (.cons (k := 1) rfl (by kernel_rfl) readsU8 (.nil _)))) (by kernel_rfl)).map (fun x => (⟨x.1, x.2.1, x.2.2.1⟩ : J3)) (fun _ => rfl) (fun _ h => by
    have h1 := h.1; have h2 := h.2.1; have h3 := h.2.2.1
    simp [IntKind.min, IntKind.max, IntKind.signed, IntKind.bits] at h1 h2 h3
    exact ⟨h1, h2, h3⟩)
theorem readsPt : Reads Try.prog 23 (fun v : V2 => [.int .i64 v.1, .int .i64 v.2]) (fun _ => True) :=
  (Reads.struct Try.underlying23 (.cons (k := 1) rfl (by kernel_rfl) readsInt (.cons (k := 1) rfl (by kernel_rfl) readsInt (.nil _))) (by kernel_rfl)).map (fun x => ((x.1, x.2.1) : V2)) (fun _ => rfl) (fun _ _ => trivial)
theorem readsDr : Reads Try.prog 29 (fun d : Dr => [.int .i64 d.x, .int .i64 d.y, .int .i64 d.n]) (fun _ => True) :=
  (Reads.struct Try.underlying29 (.cons (k := 1) rfl (by kernel_rfl) readsInt (.cons (k := 1) rfl (by kernel_rfl) readsInt (.cons (k := 1) rfl (by kernel_rfl) readsInt (.nil _)))) (by kernel_rfl)).map (fun x => (⟨x.1, x.2.1, x.2.2.1⟩ : Dr)) (fun _ => rfl) (fun _ _ => trivial)
theorem readsAr : Reads Try.prog 27 Ar.cells (fun _ => True) :=
  (Reads.struct Try.underlying27 (.cons (k := 2) rfl (by kernel_rfl) readsPt (.cons (k := 3) rfl (by kernel_rfl) readsL3 (.cons (k := 1) rfl (by kernel_rfl) readsInt (.cons (k := 3) rfl (by kernel_rfl) readsJ3 (.cons (k := 3) rfl (by kernel_rfl) readsJ3 (.nil _)))))) (by kernel_rfl)).map (fun x => (⟨x.1, x.2.1, x.2.2.1, x.2.2.2.1, x.2.2.2.2.1⟩ : Ar)) (fun _ => rfl) (fun _ _ => trivial)
theorem readsJs : Reads Try.prog 31 (fun l : List J3 => [.sl 3 (jcs l) .unk]) (fun l => l.length ≤ maxLen ∧ ∀ x ∈ l, inI x.a ∧ inI x.b ∧ inI x.c) := .slice Try.underlying31 (by kernel_rfl) (by omega) readsJ3
theorem argJ3 : ArgReads Try.prog 25 J3.av (fun q => inI q.a ∧ inI q.b ∧ inI q.c) := readsJ3.arg_array Try.underlying25
theorem argRaw : ArgReads Try.prog 30 rawav rawOk := readsRaw.arg_array Try.underlying30
theorem argPt : ArgReads Try.prog 23 V2.av (fun _ => True) := readsPt.arg_agg Try.underlying23
theorem argDr : ArgReads Try.prog 29 Dr.av (fun _ => True) := readsDr.arg_agg Try.underlying29
theorem argAr : ArgReads Try.prog 27 Ar.av (fun _ => True) := readsAr.arg_agg Try.underlying27
theorem argJs : ArgReads Try.prog 31 (fun l : List J3 => .sl 3 (jcs l) .unk) (fun l => l.length ≤ maxLen ∧ ∀ x ∈ l, inI x.a ∧ inI x.b ∧ inI x.c) := readsJs.arg_slice Try.underlying31
end Go.Proofs
