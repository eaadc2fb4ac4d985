/- What the laws' arguments are read as. -/
import Derived.Test.YtondobomjfanbaaW5
import Derived.Test.YtondobomjfanbaaRows
set_option linter.unusedVariables false
namespace Go.Proofs
open Go Go.Abs
theorem Try.own : ownKnob Try.prog.godebug = none := by kernel_rfl
theorem Try.laidOut : laidOutB Try.prog = true := by kernel_rfl
theorem readsInt : Reads Try.prog 3 (fun n : Int => [.int .i64 n]) (fun n => IntKind.i64.min ≤ n ∧ n ≤ IntKind.i64.max) := .int Try.underlying3
theorem readsI8 : Reads Try.prog 25 (fun n : Int => [.int .i8 n]) (fun n => IntKind.i8.min ≤ n ∧ n ≤ IntKind.i8.max) := .int Try.underlying25
theorem readsI16 : Reads Try.prog 41 (fun n : Int => [.int .i16 n]) (fun n => IntKind.i16.min ≤ n ∧ n ≤ IntKind.i16.max) := .int Try.underlying41
theorem readsI32 : Reads Try.prog 21 (fun n : Int => [.int .i32 n]) (fun n => IntKind.i32.min ≤ n ∧ n ≤ IntKind.i32.max) := .int Try.underlying21
theorem readsInts : Reads Try.prog 24 (fun l : List Int => [.sl 1 (ints l) .unk]) (fun l => l.length ≤ maxLen ∧ ∀ x ∈ l, IntKind.i64.min ≤ x ∧ x ≤ IntKind.i64.max) := .slice Try.underlying24 (by kernel_rfl) (by omega) readsInt
theorem readsDr : Reads Try.prog 23 (fun d : Dr => [.int .i64 d.x, .int .i64 d.y, .int .i64 d.n]) (fun _ => True) :=
  (Reads.struct Try.underlying23 (.cons (k := 1) rfl (by kernel_rfl) readsInt (.cons (k := 1) rfl (by kernel_rfl) readsInt (.cons (k := 1) rfl (by kernel_rfl) readsInt (.nil _)))) (by kernel_rfl)).map (fun x => (⟨x.1, x.2.1, x.2.2.1⟩ : Dr)) (fun _ => rfl) (fun _ _ => trivial)
theorem argInt : ArgReads Try.prog 3 (fun n : Int => .int .i64 n) (fun n => IntKind.i64.min ≤ n ∧ n ≤ IntKind.i64.max) := readsInt.arg_int Try.underlying3
theorem argI8 : ArgReads Try.prog 25 (fun n : Int => .int .i8 n) (fun n => IntKind.i8.min ≤ n ∧ n ≤ IntKind.i8.max) := readsI8.arg_int Try.underlying25
theorem argI16 : ArgReads Try.prog 41 (fun n : Int => .int .i16 n) (fun n => IntKind.i16.min ≤ n ∧ n ≤ IntKind.i16.max) := readsI16.arg_int Try.underlying41
theorem argI32 : ArgReads Try.prog 21 (fun n : Int => .int .i32 n) (fun n => IntKind.i32.min ≤ n ∧ n ≤ IntKind.i32.max) := readsI32.arg_int Try.underlying21
theorem argInts : ArgReads Try.prog 24 (fun l : List Int => .sl 1 (ints l) .unk) (fun l => l.length ≤ maxLen ∧ ∀ x ∈ l, IntKind.i64.min ≤ x ∧ x ≤ IntKind.i64.max) := readsInts.arg_slice Try.underlying24
theorem argDr : ArgReads Try.prog 23 Dr.av (fun _ => True) := readsDr.arg_agg Try.underlying23
end Go.Proofs
