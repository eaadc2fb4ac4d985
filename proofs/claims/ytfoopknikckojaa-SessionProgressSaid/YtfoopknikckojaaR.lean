/- What the laws' arguments are read as. -/
import Derived.Test.YtfoopknikckojaaW4
import Derived.Test.YtfoopknikckojaaRows
set_option linter.unusedVariables false
namespace Go.Proofs
open Go Go.Abs
theorem Try.own : ownKnob Try.prog.godebug = none := by kernel_rfl
theorem Try.laidOut : laidOutB Try.prog = true := by kernel_rfl
theorem reads3 : Reads Try.prog 3 (fun n : Int => [.int .i64 n]) (fun n => IntKind.i64.min ≤ n ∧ n ≤ IntKind.i64.max) := .int Try.underlying3
theorem reads5 : Reads Try.prog 5 (fun n : Int => [.int .u8 n]) (fun n => IntKind.u8.min ≤ n ∧ n ≤ IntKind.u8.max) := .int Try.underlying5
theorem reads22 : Reads Try.prog 22 (fun l : List Int => [.sl 1 (ints l) .unk]) (fun l => l.length ≤ maxLen ∧ ∀ x ∈ l, IntKind.i64.min ≤ x ∧ x ≤ IntKind.i64.max) := .slice Try.underlying22 (by kernel_rfl) (by omega) reads3
def Wd.wf (w : Wd) : Prop := (IntKind.i64.min ≤ w.seq ∧ w.seq ≤ IntKind.i64.max) ∧ (IntKind.u8.min ≤ w.kind ∧ w.kind ≤ IntKind.u8.max) ∧ w.nums.length ≤ maxLen ∧ ∀ x ∈ w.nums, IntKind.i64.min ≤ x ∧ x ≤ IntKind.i64.max
theorem reads35 : Reads Try.prog 35 Wd.cells Wd.wf :=
  (Reads.struct Try.underlying35 (.cons (k := 1) rfl (by kernel_rfl) reads3 (.cons (k := 1) rfl (by kernel_rfl) reads5 (.cons (k := 1) rfl (by kernel_rfl) reads22 (.nil _)))) (by kernel_rfl)).map (fun x => (⟨x.1, x.2.1, x.2.2.1⟩ : Wd)) (fun _ => rfl) (fun _ h => ⟨h.1, h.2.1, h.2.2.1⟩)
theorem reads27 : Reads Try.prog 27 (fun l : List Wd => [wds l]) (fun l => l.length ≤ maxLen ∧ ∀ x ∈ l, x.wf) := .slice Try.underlying27 (by kernel_rfl) (by omega) reads35
theorem arg27 : ArgReads Try.prog 27 wds (fun l => l.length ≤ maxLen ∧ ∀ x ∈ l, x.wf) := reads27.arg_slice Try.underlying27
theorem arg35 : ArgReads Try.prog 35 (fun w : Wd => .agg w.cells) Wd.wf := reads35.arg_agg Try.underlying35
theorem arg22 : ArgReads Try.prog 22 (fun l : List Int => .sl 1 (ints l) .unk) (fun l => l.length ≤ maxLen ∧ ∀ x ∈ l, IntKind.i64.min ≤ x ∧ x ≤ IntKind.i64.max) := reads22.arg_slice Try.underlying22
theorem arg3 : ArgReads Try.prog 3 (fun n : Int => .int .i64 n) (fun n => IntKind.i64.min ≤ n ∧ n ≤ IntKind.i64.max) := reads3.arg_int Try.underlying3
theorem arg5 : ArgReads Try.prog 5 (fun n : Int => .int .u8 n) (fun n => IntKind.u8.min ≤ n ∧ n ≤ IntKind.u8.max) := reads5.arg_int Try.underlying5
theorem reads24 : Reads Try.prog 24 (fun m : Msg => [.int .i64 m.seq, .int .i64 m.kind, .sl 1 (ints m.nums) .unk]) (fun _ => True) :=
  (Reads.struct Try.underlying24 (.cons (k := 1) rfl (by kernel_rfl) reads3 (.cons (k := 1) rfl (by kernel_rfl) reads3 (.cons (k := 1) rfl (by kernel_rfl) reads22 (.nil _)))) (by kernel_rfl)).map (fun x => (⟨x.1, x.2.1, x.2.2.1⟩ : Msg)) (fun _ => rfl) (fun _ _ => trivial)
theorem reads26 : Reads Try.prog 26 (fun t : Ses => [.int .i64 t.last, .int .i64 t.reply.seq, .int .i64 t.reply.kind, .sl 1 (ints t.reply.nums) .unk]) (fun _ => True) :=
  (Reads.struct Try.underlying26 (.cons (k := 1) rfl (by kernel_rfl) reads3 (.cons (k := 3) rfl (by kernel_rfl) reads24 (.nil _))) (by kernel_rfl)).map (fun x => (⟨x.1, x.2.1⟩ : Ses)) (fun _ => rfl) (fun _ _ => trivial)
theorem arg26 : ArgReads Try.prog 26 Ses.av (fun _ => True) := reads26.arg_agg Try.underlying26
end Go.Proofs
