/- Closed facts on the translation's types and functions. -/
import Derived.Test.YtbnmdfappoeipaaProg
import Derived.Test.YtbnmdfappoeipaaA9
set_option maxHeartbeats 4000000
namespace Go.Proofs
open Go Go.Abs
@[simp] theorem Try.sz1 : tySize Try.prog 1 = some 1 := by kernel_rfl
@[simp] theorem Try.by1 : tyBytes Try.prog 1 = some 8 := by kernel_rfl
@[simp] theorem Try.ze1 : tyZero Try.prog 1 = some [.nilfn] := by kernel_rfl
@[simp] theorem Try.zv1 : tyZeroV Try.prog 1 = some (.nilfn) := by kernel_rfl
@[simp] theorem Try.ag1 : tyAgg Try.prog 1 = some false := by kernel_rfl
@[simp] theorem Try.if1 : tyIface Try.prog 1 = some false := by kernel_rfl
attribute [simp] Try.underlying1
@[simp] theorem Try.th1 : (Try.prog.underlying 1).isSome = true := by kernel_rfl
@[simp] theorem Try.st1 : tyStr Try.prog 1 = false := by kernel_rfl
@[simp] theorem Try.in1 : tyInt Try.prog 1 = none := by kernel_rfl
@[simp] theorem Try.el1 : tyElem Try.prog 1 = none := by kernel_rfl
@[simp] theorem Try.ar1 : tyArr Try.prog 1 = none := by kernel_rfl
@[simp] theorem Try.sz2 : tySize Try.prog 2 = some 1 := by kernel_rfl
@[simp] theorem Try.by2 : tyBytes Try.prog 2 = some 8 := by kernel_rfl
@[simp] theorem Try.ze2 : tyZero Try.prog 2 = some [.int .i64 0] := by kernel_rfl
@[simp] theorem Try.zv2 : tyZeroV Try.prog 2 = some (.int .i64 0) := by kernel_rfl
@[simp] theorem Try.ag2 : tyAgg Try.prog 2 = some false := by kernel_rfl
@[simp] theorem Try.if2 : tyIface Try.prog 2 = some false := by kernel_rfl
attribute [simp] Try.underlying2
@[simp] theorem Try.th2 : (Try.prog.underlying 2).isSome = true := by kernel_rfl
@[simp] theorem Try.st2 : tyStr Try.prog 2 = false := by kernel_rfl
@[simp] theorem Try.in2 : tyInt Try.prog 2 = some .i64 := by kernel_rfl
@[simp] theorem Try.el2 : tyElem Try.prog 2 = none := by kernel_rfl
@[simp] theorem Try.ar2 : tyArr Try.prog 2 = none := by kernel_rfl
@[simp] theorem Try.sz3 : tySize Try.prog 3 = some 1 := by kernel_rfl
@[simp] theorem Try.by3 : tyBytes Try.prog 3 = some 8 := by kernel_rfl
@[simp] theorem Try.ze3 : tyZero Try.prog 3 = some [.int .i64 0] := by kernel_rfl
@[simp] theorem Try.zv3 : tyZeroV Try.prog 3 = some (.int .i64 0) := by kernel_rfl
@[simp] theorem Try.ag3 : tyAgg Try.prog 3 = some false := by kernel_rfl
@[simp] theorem Try.if3 : tyIface Try.prog 3 = some false := by kernel_rfl
attribute [simp] Try.underlying3
@[simp] theorem Try.th3 : (Try.prog.underlying 3).isSome = true := by kernel_rfl
@[simp] theorem Try.st3 : tyStr Try.prog 3 = false := by kernel_rfl
@[simp] theorem Try.in3 : tyInt Try.prog 3 = some .i64 := by kernel_rfl
@[simp] theorem Try.el3 : tyElem Try.prog 3 = none := by kernel_rfl
@[simp] theorem Try.ar3 : tyArr Try.prog 3 = none := by kernel_rfl
@[simp] theorem Try.sz4 : tySize Try.prog 4 = some 1 := by kernel_rfl
@[simp] theorem Try.by4 : tyBytes Try.prog 4 = some 1 := by kernel_rfl
@[simp] theorem Try.ze4 : tyZero Try.prog 4 = some [.bool false] := by kernel_rfl
@[simp] theorem Try.zv4 : tyZeroV Try.prog 4 = some (.bool false) := by kernel_rfl
@[simp] theorem Try.ag4 : tyAgg Try.prog 4 = some false := by kernel_rfl
@[simp] theorem Try.if4 : tyIface Try.prog 4 = some false := by kernel_rfl
attribute [simp] Try.underlying4
@[simp] theorem Try.th4 : (Try.prog.underlying 4).isSome = true := by kernel_rfl
@[simp] theorem Try.st4 : tyStr Try.prog 4 = false := by kernel_rfl
@[simp] theorem Try.in4 : tyInt Try.prog 4 = none := by kernel_rfl
@[simp] theorem Try.el4 : tyElem Try.prog 4 = none := by kernel_rfl
@[simp] theorem Try.ar4 : tyArr Try.prog 4 = none := by kernel_rfl
@[simp] theorem Try.sz5 : tySize Try.prog 5 = some 1 := by kernel_rfl
@[simp] theorem Try.by5 : tyBytes Try.prog 5 = some 1 := by kernel_rfl
@[simp] theorem Try.ze5 : tyZero Try.prog 5 = some [.int .u8 0] := by kernel_rfl
@[simp] theorem Try.zv5 : tyZeroV Try.prog 5 = some (.int .u8 0) := by kernel_rfl
@[simp] theorem Try.ag5 : tyAgg Try.prog 5 = some false := by kernel_rfl
@[simp] theorem Try.if5 : tyIface Try.prog 5 = some false := by kernel_rfl
attribute [simp] Try.underlying5
@[simp] theorem Try.th5 : (Try.prog.underlying 5).isSome = true := by kernel_rfl
@[simp] theorem Try.st5 : tyStr Try.prog 5 = false := by kernel_rfl
@[simp] theorem Try.in5 : tyInt Try.prog 5 = some .u8 := by kernel_rfl
@[simp] theorem Try.el5 : tyElem Try.prog 5 = none := by kernel_rfl
@[simp] theorem Try.ar5 : tyArr Try.prog 5 = none := by kernel_rfl
@[simp] theorem Try.sz9 : tySize Try.prog 9 = some 1 := by kernel_rfl
@[simp] theorem Try.by9 : tyBytes Try.prog 9 = some 16 := by kernel_rfl
@[simp] theorem Try.ze9 : tyZero Try.prog 9 = some [.str ⟨#[]⟩] := by kernel_rfl
@[simp] theorem Try.zv9 : tyZeroV Try.prog 9 = some (.str ⟨#[]⟩) := by kernel_rfl
@[simp] theorem Try.ag9 : tyAgg Try.prog 9 = some false := by kernel_rfl
@[simp] theorem Try.if9 : tyIface Try.prog 9 = some false := by kernel_rfl
attribute [simp] Try.underlying9
@[simp] theorem Try.th9 : (Try.prog.underlying 9).isSome = true := by kernel_rfl
@[simp] theorem Try.st9 : tyStr Try.prog 9 = true := by kernel_rfl
@[simp] theorem Try.in9 : tyInt Try.prog 9 = none := by kernel_rfl
@[simp] theorem Try.el9 : tyElem Try.prog 9 = none := by kernel_rfl
@[simp] theorem Try.ar9 : tyArr Try.prog 9 = none := by kernel_rfl
@[simp] theorem Try.sz12 : tySize Try.prog 12 = some 1 := by kernel_rfl
@[simp] theorem Try.by12 : tyBytes Try.prog 12 = some 8 := by kernel_rfl
@[simp] theorem Try.ze12 : tyZero Try.prog 12 = some [.int .u64 0] := by kernel_rfl
@[simp] theorem Try.zv12 : tyZeroV Try.prog 12 = some (.int .u64 0) := by kernel_rfl
@[simp] theorem Try.ag12 : tyAgg Try.prog 12 = some false := by kernel_rfl
@[simp] theorem Try.if12 : tyIface Try.prog 12 = some false := by kernel_rfl
attribute [simp] Try.underlying12
@[simp] theorem Try.th12 : (Try.prog.underlying 12).isSome = true := by kernel_rfl
@[simp] theorem Try.st12 : tyStr Try.prog 12 = false := by kernel_rfl
@[simp] theorem Try.in12 : tyInt Try.prog 12 = some .u64 := by kernel_rfl
@[simp] theorem Try.el12 : tyElem Try.prog 12 = none := by kernel_rfl
@[simp] theorem Try.ar12 : tyArr Try.prog 12 = none := by kernel_rfl
@[simp] theorem Try.sz15 : tySize Try.prog 15 = some 1 := by kernel_rfl
@[simp] theorem Try.by15 : tyBytes Try.prog 15 = some 8 := by kernel_rfl
@[simp] theorem Try.ze15 : tyZero Try.prog 15 = some [.nilptr] := by kernel_rfl
@[simp] theorem Try.zv15 : tyZeroV Try.prog 15 = some (.nilptr) := by kernel_rfl
@[simp] theorem Try.ag15 : tyAgg Try.prog 15 = some false := by kernel_rfl
@[simp] theorem Try.if15 : tyIface Try.prog 15 = some false := by kernel_rfl
attribute [simp] Try.underlying15
@[simp] theorem Try.th15 : (Try.prog.underlying 15).isSome = true := by kernel_rfl
@[simp] theorem Try.st15 : tyStr Try.prog 15 = false := by kernel_rfl
@[simp] theorem Try.in15 : tyInt Try.prog 15 = none := by kernel_rfl
@[simp] theorem Try.el15 : tyElem Try.prog 15 = none := by kernel_rfl
@[simp] theorem Try.ar15 : tyArr Try.prog 15 = none := by kernel_rfl
@[simp] theorem Try.sz16 : tySize Try.prog 16 = some 1 := by kernel_rfl
@[simp] theorem Try.by16 : tyBytes Try.prog 16 = some 8 := by kernel_rfl
@[simp] theorem Try.ze16 : tyZero Try.prog 16 = some [.nilptr] := by kernel_rfl
@[simp] theorem Try.zv16 : tyZeroV Try.prog 16 = some (.nilptr) := by kernel_rfl
@[simp] theorem Try.ag16 : tyAgg Try.prog 16 = some false := by kernel_rfl
@[simp] theorem Try.if16 : tyIface Try.prog 16 = some false := by kernel_rfl
attribute [simp] Try.underlying16
@[simp] theorem Try.th16 : (Try.prog.underlying 16).isSome = true := by kernel_rfl
@[simp] theorem Try.st16 : tyStr Try.prog 16 = false := by kernel_rfl
@[simp] theorem Try.in16 : tyInt Try.prog 16 = none := by kernel_rfl
@[simp] theorem Try.el16 : tyElem Try.prog 16 = none := by kernel_rfl
@[simp] theorem Try.ar16 : tyArr Try.prog 16 = none := by kernel_rfl
@[simp] theorem Try.sz20 : tySize Try.prog 20 = some 1 := by kernel_rfl
@[simp] theorem Try.by20 : tyBytes Try.prog 20 = some 16 := by kernel_rfl
@[simp] theorem Try.ze20 : tyZero Try.prog 20 = some [.nilifc] := by kernel_rfl
@[simp] theorem Try.zv20 : tyZeroV Try.prog 20 = some (.nilifc) := by kernel_rfl
@[simp] theorem Try.ag20 : tyAgg Try.prog 20 = some false := by kernel_rfl
@[simp] theorem Try.if20 : tyIface Try.prog 20 = some true := by kernel_rfl
attribute [simp] Try.underlying20
@[simp] theorem Try.th20 : (Try.prog.underlying 20).isSome = true := by kernel_rfl
@[simp] theorem Try.st20 : tyStr Try.prog 20 = false := by kernel_rfl
@[simp] theorem Try.in20 : tyInt Try.prog 20 = none := by kernel_rfl
@[simp] theorem Try.el20 : tyElem Try.prog 20 = none := by kernel_rfl
@[simp] theorem Try.ar20 : tyArr Try.prog 20 = none := by kernel_rfl
@[simp] theorem Try.sz21 : tySize Try.prog 21 = some 1 := by kernel_rfl
@[simp] theorem Try.by21 : tyBytes Try.prog 21 = some 4 := by kernel_rfl
@[simp] theorem Try.ze21 : tyZero Try.prog 21 = some [.int .i32 0] := by kernel_rfl
@[simp] theorem Try.zv21 : tyZeroV Try.prog 21 = some (.int .i32 0) := by kernel_rfl
@[simp] theorem Try.ag21 : tyAgg Try.prog 21 = some false := by kernel_rfl
@[simp] theorem Try.if21 : tyIface Try.prog 21 = some false := by kernel_rfl
attribute [simp] Try.underlying21
@[simp] theorem Try.th21 : (Try.prog.underlying 21).isSome = true := by kernel_rfl
@[simp] theorem Try.st21 : tyStr Try.prog 21 = false := by kernel_rfl
@[simp] theorem Try.in21 : tyInt Try.prog 21 = some .i32 := by kernel_rfl
@[simp] theorem Try.el21 : tyElem Try.prog 21 = none := by kernel_rfl
@[simp] theorem Try.ar21 : tyArr Try.prog 21 = none := by kernel_rfl
@[simp] theorem Try.sz22 : tySize Try.prog 22 = some 1 := by kernel_rfl
@[simp] theorem Try.by22 : tyBytes Try.prog 22 = some 24 := by kernel_rfl
@[simp] theorem Try.ze22 : tyZero Try.prog 22 = some [.sl 0 [] .nil] := by kernel_rfl
@[simp] theorem Try.zv22 : tyZeroV Try.prog 22 = some (.sl 0 [] .nil) := by kernel_rfl
@[simp] theorem Try.ag22 : tyAgg Try.prog 22 = some false := by kernel_rfl
@[simp] theorem Try.if22 : tyIface Try.prog 22 = some false := by kernel_rfl
@[simp] theorem Try.th22 : (Try.prog.underlying 22).isSome = true := by kernel_rfl
@[simp] theorem Try.st22 : tyStr Try.prog 22 = false := by kernel_rfl
@[simp] theorem Try.in22 : tyInt Try.prog 22 = none := by kernel_rfl
@[simp] theorem Try.el22 : tyElem Try.prog 22 = some 28 := by kernel_rfl
@[simp] theorem Try.ar22 : tyArr Try.prog 22 = none := by kernel_rfl
@[simp] theorem Try.sz23 : tySize Try.prog 23 = some 2 := by kernel_rfl
@[simp] theorem Try.by23 : tyBytes Try.prog 23 = some 16 := by kernel_rfl
@[simp] theorem Try.ze23 : tyZero Try.prog 23 = some [.int .i64 0, .int .i64 0] := by kernel_rfl
@[simp] theorem Try.zv23 : tyZeroV Try.prog 23 = some (.agg [.int .i64 0, .int .i64 0]) := by kernel_rfl
@[simp] theorem Try.ag23 : tyAgg Try.prog 23 = some true := by kernel_rfl
@[simp] theorem Try.if23 : tyIface Try.prog 23 = some false := by kernel_rfl
attribute [simp] Try.underlying23
@[simp] theorem Try.th23 : (Try.prog.underlying 23).isSome = true := by kernel_rfl
@[simp] theorem Try.st23 : tyStr Try.prog 23 = false := by kernel_rfl
@[simp] theorem Try.in23 : tyInt Try.prog 23 = none := by kernel_rfl
@[simp] theorem Try.el23 : tyElem Try.prog 23 = none := by kernel_rfl
@[simp] theorem Try.ar23 : tyArr Try.prog 23 = some (2, 3) := by kernel_rfl
@[simp] theorem Try.pl23 : tyPlaces Try.prog 23 = some (.inr 1) := by kernel_rfl
@[simp] theorem Try.gu23 : Try.prog.eqGuardType Try.prog.depth 23 = false := by kernel_rfl
@[simp] theorem Try.sz24 : tySize Try.prog 24 = some 6 := by kernel_rfl
@[simp] theorem Try.by24 : tyBytes Try.prog 24 = some 64 := by kernel_rfl
@[simp] theorem Try.ze24 : tyZero Try.prog 24 = some [.int .i64 0, .int .i64 0, .int .i64 0, .sl 0 [] .nil, .int .i64 0, .int .i64 0] := by kernel_rfl
@[simp] theorem Try.zv24 : tyZeroV Try.prog 24 = some (.agg [.int .i64 0, .int .i64 0, .int .i64 0, .sl 0 [] .nil, .int .i64 0, .int .i64 0]) := by kernel_rfl
@[simp] theorem Try.ag24 : tyAgg Try.prog 24 = some true := by kernel_rfl
@[simp] theorem Try.if24 : tyIface Try.prog 24 = some false := by kernel_rfl
attribute [simp] Try.underlying24
@[simp] theorem Try.th24 : (Try.prog.underlying 24).isSome = true := by kernel_rfl
@[simp] theorem Try.st24 : tyStr Try.prog 24 = false := by kernel_rfl
@[simp] theorem Try.in24 : tyInt Try.prog 24 = none := by kernel_rfl
@[simp] theorem Try.el24 : tyElem Try.prog 24 = none := by kernel_rfl
@[simp] theorem Try.ar24 : tyArr Try.prog 24 = none := by kernel_rfl
@[simp] theorem Try.fi24_0 : tyField Try.prog 24 0 = some (0, 3) := by kernel_rfl
@[simp] theorem Try.fi24_1 : tyField Try.prog 24 1 = some (1, 3) := by kernel_rfl
@[simp] theorem Try.fi24_2 : tyField Try.prog 24 2 = some (2, 3) := by kernel_rfl
@[simp] theorem Try.fi24_3 : tyField Try.prog 24 3 = some (3, 22) := by kernel_rfl
@[simp] theorem Try.fi24_4 : tyField Try.prog 24 4 = some (4, 23) := by kernel_rfl
@[simp] theorem Try.pl24 : tyPlaces Try.prog 24 = some (.inl [(0, 1), (1, 1), (2, 1), (3, 1), (4, 2)]) := by kernel_rfl
@[simp] theorem Try.gu24 : Try.prog.eqGuardType Try.prog.depth 24 = false := by kernel_rfl
@[simp] theorem Try.si24 : Try.prog.stoodInHeld 24 = false := by kernel_rfl
@[simp] theorem Try.sz25 : tySize Try.prog 25 = some 6 := by kernel_rfl
@[simp] theorem Try.by25 : tyBytes Try.prog 25 = some 64 := by kernel_rfl
@[simp] theorem Try.ze25 : tyZero Try.prog 25 = some [.int .i64 0, .int .i64 0, .int .i64 0, .sl 0 [] .nil, .int .i64 0, .int .i64 0] := by kernel_rfl
@[simp] theorem Try.zv25 : tyZeroV Try.prog 25 = some (.agg [.int .i64 0, .int .i64 0, .int .i64 0, .sl 0 [] .nil, .int .i64 0, .int .i64 0]) := by kernel_rfl
@[simp] theorem Try.ag25 : tyAgg Try.prog 25 = some true := by kernel_rfl
@[simp] theorem Try.if25 : tyIface Try.prog 25 = some false := by kernel_rfl
attribute [simp] Try.underlying25
@[simp] theorem Try.th25 : (Try.prog.underlying 25).isSome = true := by kernel_rfl
@[simp] theorem Try.st25 : tyStr Try.prog 25 = false := by kernel_rfl
@[simp] theorem Try.in25 : tyInt Try.prog 25 = none := by kernel_rfl
@[simp] theorem Try.el25 : tyElem Try.prog 25 = none := by kernel_rfl
@[simp] theorem Try.ar25 : tyArr Try.prog 25 = none := by kernel_rfl
@[simp] theorem Try.fi25_0 : tyField Try.prog 25 0 = some (0, 3) := by kernel_rfl
@[simp] theorem Try.fi25_1 : tyField Try.prog 25 1 = some (1, 3) := by kernel_rfl
@[simp] theorem Try.fi25_2 : tyField Try.prog 25 2 = some (2, 3) := by kernel_rfl
@[simp] theorem Try.fi25_3 : tyField Try.prog 25 3 = some (3, 22) := by kernel_rfl
@[simp] theorem Try.fi25_4 : tyField Try.prog 25 4 = some (4, 23) := by kernel_rfl
@[simp] theorem Try.pl25 : tyPlaces Try.prog 25 = some (.inl [(0, 1), (1, 1), (2, 1), (3, 1), (4, 2)]) := by kernel_rfl
@[simp] theorem Try.gu25 : Try.prog.eqGuardType Try.prog.depth 25 = false := by kernel_rfl
@[simp] theorem Try.si25 : Try.prog.stoodInHeld 25 = false := by kernel_rfl
@[simp] theorem Try.sz26 : tySize Try.prog 26 = some 1 := by kernel_rfl
@[simp] theorem Try.by26 : tyBytes Try.prog 26 = some 24 := by kernel_rfl
@[simp] theorem Try.ze26 : tyZero Try.prog 26 = some [.sl 0 [] .nil] := by kernel_rfl
@[simp] theorem Try.zv26 : tyZeroV Try.prog 26 = some (.sl 0 [] .nil) := by kernel_rfl
@[simp] theorem Try.ag26 : tyAgg Try.prog 26 = some false := by kernel_rfl
@[simp] theorem Try.if26 : tyIface Try.prog 26 = some false := by kernel_rfl
@[simp] theorem Try.th26 : (Try.prog.underlying 26).isSome = true := by kernel_rfl
@[simp] theorem Try.st26 : tyStr Try.prog 26 = false := by kernel_rfl
@[simp] theorem Try.in26 : tyInt Try.prog 26 = none := by kernel_rfl
@[simp] theorem Try.el26 : tyElem Try.prog 26 = some 39 := by kernel_rfl
@[simp] theorem Try.ar26 : tyArr Try.prog 26 = none := by kernel_rfl
@[simp] theorem Try.sz27 : tySize Try.prog 27 = some 4 := by kernel_rfl
@[simp] theorem Try.by27 : tyBytes Try.prog 27 = some 32 := by kernel_rfl
@[simp] theorem Try.ze27 : tyZero Try.prog 27 = some [.int .i64 0, .int .i64 0, .int .i64 0, .int .i64 0] := by kernel_rfl
@[simp] theorem Try.zv27 : tyZeroV Try.prog 27 = some (.agg [.int .i64 0, .int .i64 0, .int .i64 0, .int .i64 0]) := by kernel_rfl
@[simp] theorem Try.ag27 : tyAgg Try.prog 27 = some true := by kernel_rfl
@[simp] theorem Try.if27 : tyIface Try.prog 27 = some false := by kernel_rfl
attribute [simp] Try.underlying27
@[simp] theorem Try.th27 : (Try.prog.underlying 27).isSome = true := by kernel_rfl
@[simp] theorem Try.st27 : tyStr Try.prog 27 = false := by kernel_rfl
@[simp] theorem Try.in27 : tyInt Try.prog 27 = none := by kernel_rfl
@[simp] theorem Try.el27 : tyElem Try.prog 27 = none := by kernel_rfl
@[simp] theorem Try.ar27 : tyArr Try.prog 27 = none := by kernel_rfl
@[simp] theorem Try.fi27_0 : tyField Try.prog 27 0 = some (0, 3) := by kernel_rfl
@[simp] theorem Try.fi27_1 : tyField Try.prog 27 1 = some (1, 3) := by kernel_rfl
@[simp] theorem Try.fi27_2 : tyField Try.prog 27 2 = some (2, 3) := by kernel_rfl
@[simp] theorem Try.fi27_3 : tyField Try.prog 27 3 = some (3, 3) := by kernel_rfl
@[simp] theorem Try.pl27 : tyPlaces Try.prog 27 = some (.inl [(0, 1), (1, 1), (2, 1), (3, 1)]) := by kernel_rfl
@[simp] theorem Try.gu27 : Try.prog.eqGuardType Try.prog.depth 27 = false := by kernel_rfl
@[simp] theorem Try.si27 : Try.prog.stoodInHeld 27 = false := by kernel_rfl
@[simp] theorem Try.sz28 : tySize Try.prog 28 = some 4 := by kernel_rfl
@[simp] theorem Try.by28 : tyBytes Try.prog 28 = some 32 := by kernel_rfl
@[simp] theorem Try.ze28 : tyZero Try.prog 28 = some [.int .i64 0, .int .i64 0, .int .i64 0, .int .i64 0] := by kernel_rfl
@[simp] theorem Try.zv28 : tyZeroV Try.prog 28 = some (.agg [.int .i64 0, .int .i64 0, .int .i64 0, .int .i64 0]) := by kernel_rfl
@[simp] theorem Try.ag28 : tyAgg Try.prog 28 = some true := by kernel_rfl
@[simp] theorem Try.if28 : tyIface Try.prog 28 = some false := by kernel_rfl
attribute [simp] Try.underlying28
@[simp] theorem Try.th28 : (Try.prog.underlying 28).isSome = true := by kernel_rfl
@[simp] theorem Try.st28 : tyStr Try.prog 28 = false := by kernel_rfl
@[simp] theorem Try.in28 : tyInt Try.prog 28 = none := by kernel_rfl
@[simp] theorem Try.el28 : tyElem Try.prog 28 = none := by kernel_rfl
@[simp] theorem Try.ar28 : tyArr Try.prog 28 = none := by kernel_rfl
@[simp] theorem Try.fi28_0 : tyField Try.prog 28 0 = some (0, 3) := by kernel_rfl
@[simp] theorem Try.fi28_1 : tyField Try.prog 28 1 = some (1, 3) := by kernel_rfl
@[simp] theorem Try.fi28_2 : tyField Try.prog 28 2 = some (2, 3) := by kernel_rfl
@[simp] theorem Try.fi28_3 : tyField Try.prog 28 3 = some (3, 3) := by kernel_rfl
@[simp] theorem Try.pl28 : tyPlaces Try.prog 28 = some (.inl [(0, 1), (1, 1), (2, 1), (3, 1)]) := by kernel_rfl
@[simp] theorem Try.gu28 : Try.prog.eqGuardType Try.prog.depth 28 = false := by kernel_rfl
@[simp] theorem Try.si28 : Try.prog.stoodInHeld 28 = false := by kernel_rfl
@[simp] theorem Try.sz29 : tySize Try.prog 29 = some 1 := by kernel_rfl
@[simp] theorem Try.by29 : tyBytes Try.prog 29 = some 8 := by kernel_rfl
@[simp] theorem Try.ze29 : tyZero Try.prog 29 = some [.nilfn] := by kernel_rfl
@[simp] theorem Try.zv29 : tyZeroV Try.prog 29 = some (.nilfn) := by kernel_rfl
@[simp] theorem Try.ag29 : tyAgg Try.prog 29 = some false := by kernel_rfl
@[simp] theorem Try.if29 : tyIface Try.prog 29 = some false := by kernel_rfl
attribute [simp] Try.underlying29
@[simp] theorem Try.th29 : (Try.prog.underlying 29).isSome = true := by kernel_rfl
@[simp] theorem Try.st29 : tyStr Try.prog 29 = false := by kernel_rfl
@[simp] theorem Try.in29 : tyInt Try.prog 29 = none := by kernel_rfl
@[simp] theorem Try.el29 : tyElem Try.prog 29 = none := by kernel_rfl
@[simp] theorem Try.ar29 : tyArr Try.prog 29 = none := by kernel_rfl
@[simp] theorem Try.sz30 : tySize Try.prog 30 = some 1 := by kernel_rfl
@[simp] theorem Try.by30 : tyBytes Try.prog 30 = some 8 := by kernel_rfl
@[simp] theorem Try.ze30 : tyZero Try.prog 30 = some [.nilfn] := by kernel_rfl
@[simp] theorem Try.zv30 : tyZeroV Try.prog 30 = some (.nilfn) := by kernel_rfl
@[simp] theorem Try.ag30 : tyAgg Try.prog 30 = some false := by kernel_rfl
@[simp] theorem Try.if30 : tyIface Try.prog 30 = some false := by kernel_rfl
attribute [simp] Try.underlying30
@[simp] theorem Try.th30 : (Try.prog.underlying 30).isSome = true := by kernel_rfl
@[simp] theorem Try.st30 : tyStr Try.prog 30 = false := by kernel_rfl
@[simp] theorem Try.in30 : tyInt Try.prog 30 = none := by kernel_rfl
@[simp] theorem Try.el30 : tyElem Try.prog 30 = none := by kernel_rfl
@[simp] theorem Try.ar30 : tyArr Try.prog 30 = none := by kernel_rfl
@[simp] theorem Try.sz31 : tySize Try.prog 31 = some 1 := by kernel_rfl
@[simp] theorem Try.by31 : tyBytes Try.prog 31 = some 8 := by kernel_rfl
@[simp] theorem Try.ze31 : tyZero Try.prog 31 = some [.nilfn] := by kernel_rfl
@[simp] theorem Try.zv31 : tyZeroV Try.prog 31 = some (.nilfn) := by kernel_rfl
@[simp] theorem Try.ag31 : tyAgg Try.prog 31 = some false := by kernel_rfl
@[simp] theorem Try.if31 : tyIface Try.prog 31 = some false := by kernel_rfl
attribute [simp] Try.underlying31
@[simp] theorem Try.th31 : (Try.prog.underlying 31).isSome = true := by kernel_rfl
@[simp] theorem Try.st31 : tyStr Try.prog 31 = false := by kernel_rfl
@[simp] theorem Try.in31 : tyInt Try.prog 31 = none := by kernel_rfl
@[simp] theorem Try.el31 : tyElem Try.prog 31 = none := by kernel_rfl
@[simp] theorem Try.ar31 : tyArr Try.prog 31 = none := by kernel_rfl
@[simp] theorem Try.sz32 : tySize Try.prog 32 = some 1 := by kernel_rfl
@[simp] theorem Try.by32 : tyBytes Try.prog 32 = some 8 := by kernel_rfl
@[simp] theorem Try.ze32 : tyZero Try.prog 32 = some [.nilfn] := by kernel_rfl
@[simp] theorem Try.zv32 : tyZeroV Try.prog 32 = some (.nilfn) := by kernel_rfl
@[simp] theorem Try.ag32 : tyAgg Try.prog 32 = some false := by kernel_rfl
@[simp] theorem Try.if32 : tyIface Try.prog 32 = some false := by kernel_rfl
attribute [simp] Try.underlying32
@[simp] theorem Try.th32 : (Try.prog.underlying 32).isSome = true := by kernel_rfl
@[simp] theorem Try.st32 : tyStr Try.prog 32 = false := by kernel_rfl
@[simp] theorem Try.in32 : tyInt Try.prog 32 = none := by kernel_rfl
@[simp] theorem Try.el32 : tyElem Try.prog 32 = none := by kernel_rfl
@[simp] theorem Try.ar32 : tyArr Try.prog 32 = none := by kernel_rfl
@[simp] theorem Try.sz33 : tySize Try.prog 33 = some 1 := by kernel_rfl
@[simp] theorem Try.by33 : tyBytes Try.prog 33 = some 8 := by kernel_rfl
@[simp] theorem Try.ze33 : tyZero Try.prog 33 = some [.nilfn] := by kernel_rfl
@[simp] theorem Try.zv33 : tyZeroV Try.prog 33 = some (.nilfn) := by kernel_rfl
@[simp] theorem Try.ag33 : tyAgg Try.prog 33 = some false := by kernel_rfl
@[simp] theorem Try.if33 : tyIface Try.prog 33 = some false := by kernel_rfl
attribute [simp] Try.underlying33
@[simp] theorem Try.th33 : (Try.prog.underlying 33).isSome = true := by kernel_rfl
@[simp] theorem Try.st33 : tyStr Try.prog 33 = false := by kernel_rfl
@[simp] theorem Try.in33 : tyInt Try.prog 33 = none := by kernel_rfl
@[simp] theorem Try.el33 : tyElem Try.prog 33 = none := by kernel_rfl
@[simp] theorem Try.ar33 : tyArr Try.prog 33 = none := by kernel_rfl
@[simp] theorem Try.sz34 : tySize Try.prog 34 = some 1 := by kernel_rfl
@[simp] theorem Try.by34 : tyBytes Try.prog 34 = some 8 := by kernel_rfl
@[simp] theorem Try.ze34 : tyZero Try.prog 34 = some [.nilfn] := by kernel_rfl
@[simp] theorem Try.zv34 : tyZeroV Try.prog 34 = some (.nilfn) := by kernel_rfl
@[simp] theorem Try.ag34 : tyAgg Try.prog 34 = some false := by kernel_rfl
@[simp] theorem Try.if34 : tyIface Try.prog 34 = some false := by kernel_rfl
attribute [simp] Try.underlying34
@[simp] theorem Try.th34 : (Try.prog.underlying 34).isSome = true := by kernel_rfl
@[simp] theorem Try.st34 : tyStr Try.prog 34 = false := by kernel_rfl
@[simp] theorem Try.in34 : tyInt Try.prog 34 = none := by kernel_rfl
@[simp] theorem Try.el34 : tyElem Try.prog 34 = none := by kernel_rfl
@[simp] theorem Try.ar34 : tyArr Try.prog 34 = none := by kernel_rfl
@[simp] theorem Try.sz35 : tySize Try.prog 35 = some 1 := by kernel_rfl
@[simp] theorem Try.by35 : tyBytes Try.prog 35 = some 8 := by kernel_rfl
@[simp] theorem Try.ze35 : tyZero Try.prog 35 = some [.int .i64 0] := by kernel_rfl
@[simp] theorem Try.zv35 : tyZeroV Try.prog 35 = some (.int .i64 0) := by kernel_rfl
@[simp] theorem Try.ag35 : tyAgg Try.prog 35 = some false := by kernel_rfl
@[simp] theorem Try.if35 : tyIface Try.prog 35 = some false := by kernel_rfl
attribute [simp] Try.underlying35
@[simp] theorem Try.th35 : (Try.prog.underlying 35).isSome = true := by kernel_rfl
@[simp] theorem Try.st35 : tyStr Try.prog 35 = false := by kernel_rfl
@[simp] theorem Try.in35 : tyInt Try.prog 35 = some .i64 := by kernel_rfl
@[simp] theorem Try.el35 : tyElem Try.prog 35 = none := by kernel_rfl
@[simp] theorem Try.ar35 : tyArr Try.prog 35 = none := by kernel_rfl
@[simp] theorem Try.sz37 : tySize Try.prog 37 = some 1 := by kernel_rfl
@[simp] theorem Try.by37 : tyBytes Try.prog 37 = some 8 := by kernel_rfl
@[simp] theorem Try.ze37 : tyZero Try.prog 37 = some [.nilfn] := by kernel_rfl
@[simp] theorem Try.zv37 : tyZeroV Try.prog 37 = some (.nilfn) := by kernel_rfl
@[simp] theorem Try.ag37 : tyAgg Try.prog 37 = some false := by kernel_rfl
@[simp] theorem Try.if37 : tyIface Try.prog 37 = some false := by kernel_rfl
attribute [simp] Try.underlying37
@[simp] theorem Try.th37 : (Try.prog.underlying 37).isSome = true := by kernel_rfl
@[simp] theorem Try.st37 : tyStr Try.prog 37 = false := by kernel_rfl
@[simp] theorem Try.in37 : tyInt Try.prog 37 = none := by kernel_rfl
@[simp] theorem Try.el37 : tyElem Try.prog 37 = none := by kernel_rfl
@[simp] theorem Try.ar37 : tyArr Try.prog 37 = none := by kernel_rfl
@[simp] theorem Try.sz38 : tySize Try.prog 38 = some 3 := by kernel_rfl
@[simp] theorem Try.by38 : tyBytes Try.prog 38 = some 40 := by kernel_rfl
@[simp] theorem Try.ze38 : tyZero Try.prog 38 = some [.sl 0 [] .nil, .int .i64 0, .bool false] := by kernel_rfl
@[simp] theorem Try.zv38 : tyZeroV Try.prog 38 = some (.agg [.sl 0 [] .nil, .int .i64 0, .bool false]) := by kernel_rfl
@[simp] theorem Try.ag38 : tyAgg Try.prog 38 = some true := by kernel_rfl
@[simp] theorem Try.if38 : tyIface Try.prog 38 = some false := by kernel_rfl
attribute [simp] Try.underlying38
@[simp] theorem Try.th38 : (Try.prog.underlying 38).isSome = true := by kernel_rfl
@[simp] theorem Try.st38 : tyStr Try.prog 38 = false := by kernel_rfl
@[simp] theorem Try.in38 : tyInt Try.prog 38 = none := by kernel_rfl
@[simp] theorem Try.el38 : tyElem Try.prog 38 = none := by kernel_rfl
@[simp] theorem Try.ar38 : tyArr Try.prog 38 = none := by kernel_rfl
@[simp] theorem Try.fi38_0 : tyField Try.prog 38 0 = some (0, 22) := by kernel_rfl
@[simp] theorem Try.fi38_1 : tyField Try.prog 38 1 = some (1, 3) := by kernel_rfl
@[simp] theorem Try.fi38_2 : tyField Try.prog 38 2 = some (2, 4) := by kernel_rfl
@[simp] theorem Try.pl38 : tyPlaces Try.prog 38 = some (.inl [(0, 1), (1, 1), (2, 1)]) := by kernel_rfl
@[simp] theorem Try.gu38 : Try.prog.eqGuardType Try.prog.depth 38 = false := by kernel_rfl
@[simp] theorem Try.si38 : Try.prog.stoodInHeld 38 = false := by kernel_rfl
@[simp] theorem Try.sz39 : tySize Try.prog 39 = some 3 := by kernel_rfl
@[simp] theorem Try.by39 : tyBytes Try.prog 39 = some 40 := by kernel_rfl
@[simp] theorem Try.ze39 : tyZero Try.prog 39 = some [.sl 0 [] .nil, .int .i64 0, .bool false] := by kernel_rfl
@[simp] theorem Try.zv39 : tyZeroV Try.prog 39 = some (.agg [.sl 0 [] .nil, .int .i64 0, .bool false]) := by kernel_rfl
@[simp] theorem Try.ag39 : tyAgg Try.prog 39 = some true := by kernel_rfl
@[simp] theorem Try.if39 : tyIface Try.prog 39 = some false := by kernel_rfl
attribute [simp] Try.underlying39
@[simp] theorem Try.th39 : (Try.prog.underlying 39).isSome = true := by kernel_rfl
@[simp] theorem Try.st39 : tyStr Try.prog 39 = false := by kernel_rfl
@[simp] theorem Try.in39 : tyInt Try.prog 39 = none := by kernel_rfl
@[simp] theorem Try.el39 : tyElem Try.prog 39 = none := by kernel_rfl
@[simp] theorem Try.ar39 : tyArr Try.prog 39 = none := by kernel_rfl
@[simp] theorem Try.fi39_0 : tyField Try.prog 39 0 = some (0, 22) := by kernel_rfl
@[simp] theorem Try.fi39_1 : tyField Try.prog 39 1 = some (1, 3) := by kernel_rfl
@[simp] theorem Try.fi39_2 : tyField Try.prog 39 2 = some (2, 4) := by kernel_rfl
@[simp] theorem Try.pl39 : tyPlaces Try.prog 39 = some (.inl [(0, 1), (1, 1), (2, 1)]) := by kernel_rfl
@[simp] theorem Try.gu39 : Try.prog.eqGuardType Try.prog.depth 39 = false := by kernel_rfl
@[simp] theorem Try.si39 : Try.prog.stoodInHeld 39 = false := by kernel_rfl
@[simp] theorem Try.sz40 : tySize Try.prog 40 = some 1 := by kernel_rfl
@[simp] theorem Try.by40 : tyBytes Try.prog 40 = some 8 := by kernel_rfl
@[simp] theorem Try.ze40 : tyZero Try.prog 40 = some [.nilfn] := by kernel_rfl
@[simp] theorem Try.zv40 : tyZeroV Try.prog 40 = some (.nilfn) := by kernel_rfl
@[simp] theorem Try.ag40 : tyAgg Try.prog 40 = some false := by kernel_rfl
@[simp] theorem Try.if40 : tyIface Try.prog 40 = some false := by kernel_rfl
attribute [simp] Try.underlying40
@[simp] theorem Try.th40 : (Try.prog.underlying 40).isSome = true := by kernel_rfl
@[simp] theorem Try.st40 : tyStr Try.prog 40 = false := by kernel_rfl
@[simp] theorem Try.in40 : tyInt Try.prog 40 = none := by kernel_rfl
@[simp] theorem Try.el40 : tyElem Try.prog 40 = none := by kernel_rfl
@[simp] theorem Try.ar40 : tyArr Try.prog 40 = none := by kernel_rfl
@[simp] theorem Try.sz41 : tySize Try.prog 41 = some 1 := by kernel_rfl
@[simp] theorem Try.by41 : tyBytes Try.prog 41 = some 8 := by kernel_rfl
@[simp] theorem Try.ze41 : tyZero Try.prog 41 = some [.nilfn] := by kernel_rfl
@[simp] theorem Try.zv41 : tyZeroV Try.prog 41 = some (.nilfn) := by kernel_rfl
@[simp] theorem Try.ag41 : tyAgg Try.prog 41 = some false := by kernel_rfl
@[simp] theorem Try.if41 : tyIface Try.prog 41 = some false := by kernel_rfl
attribute [simp] Try.underlying41
@[simp] theorem Try.th41 : (Try.prog.underlying 41).isSome = true := by kernel_rfl
@[simp] theorem Try.st41 : tyStr Try.prog 41 = false := by kernel_rfl
@[simp] theorem Try.in41 : tyInt Try.prog 41 = none := by kernel_rfl
@[simp] theorem Try.el41 : tyElem Try.prog 41 = none := by kernel_rfl
@[simp] theorem Try.ar41 : tyArr Try.prog 41 = none := by kernel_rfl
@[simp] theorem Try.sz42 : tySize Try.prog 42 = some 1 := by kernel_rfl
@[simp] theorem Try.by42 : tyBytes Try.prog 42 = some 8 := by kernel_rfl
@[simp] theorem Try.ze42 : tyZero Try.prog 42 = some [.nilfn] := by kernel_rfl
@[simp] theorem Try.zv42 : tyZeroV Try.prog 42 = some (.nilfn) := by kernel_rfl
@[simp] theorem Try.ag42 : tyAgg Try.prog 42 = some false := by kernel_rfl
@[simp] theorem Try.if42 : tyIface Try.prog 42 = some false := by kernel_rfl
attribute [simp] Try.underlying42
@[simp] theorem Try.th42 : (Try.prog.underlying 42).isSome = true := by kernel_rfl
@[simp] theorem Try.st42 : tyStr Try.prog 42 = false := by kernel_rfl
@[simp] theorem Try.in42 : tyInt Try.prog 42 = none := by kernel_rfl
@[simp] theorem Try.el42 : tyElem Try.prog 42 = none := by kernel_rfl
@[simp] theorem Try.ar42 : tyArr Try.prog 42 = none := by kernel_rfl
@[simp] theorem Try.sz43 : tySize Try.prog 43 = some 1 := by kernel_rfl
@[simp] theorem Try.by43 : tyBytes Try.prog 43 = some 8 := by kernel_rfl
@[simp] theorem Try.ze43 : tyZero Try.prog 43 = some [.nilfn] := by kernel_rfl
@[simp] theorem Try.zv43 : tyZeroV Try.prog 43 = some (.nilfn) := by kernel_rfl
@[simp] theorem Try.ag43 : tyAgg Try.prog 43 = some false := by kernel_rfl
@[simp] theorem Try.if43 : tyIface Try.prog 43 = some false := by kernel_rfl
attribute [simp] Try.underlying43
@[simp] theorem Try.th43 : (Try.prog.underlying 43).isSome = true := by kernel_rfl
@[simp] theorem Try.st43 : tyStr Try.prog 43 = false := by kernel_rfl
@[simp] theorem Try.in43 : tyInt Try.prog 43 = none := by kernel_rfl
@[simp] theorem Try.el43 : tyElem Try.prog 43 = none := by kernel_rfl
@[simp] theorem Try.ar43 : tyArr Try.prog 43 = none := by kernel_rfl
@[simp] theorem Try.sz44 : tySize Try.prog 44 = some 1 := by kernel_rfl
@[simp] theorem Try.by44 : tyBytes Try.prog 44 = some 8 := by kernel_rfl
@[simp] theorem Try.ze44 : tyZero Try.prog 44 = some [.nilfn] := by kernel_rfl
@[simp] theorem Try.zv44 : tyZeroV Try.prog 44 = some (.nilfn) := by kernel_rfl
@[simp] theorem Try.ag44 : tyAgg Try.prog 44 = some false := by kernel_rfl
@[simp] theorem Try.if44 : tyIface Try.prog 44 = some false := by kernel_rfl
attribute [simp] Try.underlying44
@[simp] theorem Try.th44 : (Try.prog.underlying 44).isSome = true := by kernel_rfl
@[simp] theorem Try.st44 : tyStr Try.prog 44 = false := by kernel_rfl
@[simp] theorem Try.in44 : tyInt Try.prog 44 = none := by kernel_rfl
@[simp] theorem Try.el44 : tyElem Try.prog 44 = none := by kernel_rfl
@[simp] theorem Try.ar44 : tyArr Try.prog 44 = none := by kernel_rfl
@[simp] theorem Try.sz45 : tySize Try.prog 45 = some 1 := by kernel_rfl
@[simp] theorem Try.by45 : tyBytes Try.prog 45 = some 8 := by kernel_rfl
@[simp] theorem Try.ze45 : tyZero Try.prog 45 = some [.nilfn] := by kernel_rfl
@[simp] theorem Try.zv45 : tyZeroV Try.prog 45 = some (.nilfn) := by kernel_rfl
@[simp] theorem Try.ag45 : tyAgg Try.prog 45 = some false := by kernel_rfl
@[simp] theorem Try.if45 : tyIface Try.prog 45 = some false := by kernel_rfl
attribute [simp] Try.underlying45
@[simp] theorem Try.th45 : (Try.prog.underlying 45).isSome = true := by kernel_rfl
@[simp] theorem Try.st45 : tyStr Try.prog 45 = false := by kernel_rfl
@[simp] theorem Try.in45 : tyInt Try.prog 45 = none := by kernel_rfl
@[simp] theorem Try.el45 : tyElem Try.prog 45 = none := by kernel_rfl
@[simp] theorem Try.ar45 : tyArr Try.prog 45 = none := by kernel_rfl
@[simp] theorem Try.sz46 : tySize Try.prog 46 = some 1 := by kernel_rfl
@[simp] theorem Try.by46 : tyBytes Try.prog 46 = some 8 := by kernel_rfl
@[simp] theorem Try.ze46 : tyZero Try.prog 46 = some [.nilfn] := by kernel_rfl
@[simp] theorem Try.zv46 : tyZeroV Try.prog 46 = some (.nilfn) := by kernel_rfl
@[simp] theorem Try.ag46 : tyAgg Try.prog 46 = some false := by kernel_rfl
@[simp] theorem Try.if46 : tyIface Try.prog 46 = some false := by kernel_rfl
attribute [simp] Try.underlying46
@[simp] theorem Try.th46 : (Try.prog.underlying 46).isSome = true := by kernel_rfl
@[simp] theorem Try.st46 : tyStr Try.prog 46 = false := by kernel_rfl
@[simp] theorem Try.in46 : tyInt Try.prog 46 = none := by kernel_rfl
@[simp] theorem Try.el46 : tyElem Try.prog 46 = none := by kernel_rfl
@[simp] theorem Try.ar46 : tyArr Try.prog 46 = none := by kernel_rfl
@[simp] theorem Try.sz47 : tySize Try.prog 47 = some 1 := by kernel_rfl
@[simp] theorem Try.by47 : tyBytes Try.prog 47 = some 8 := by kernel_rfl
@[simp] theorem Try.ze47 : tyZero Try.prog 47 = some [.nilmap] := by kernel_rfl
@[simp] theorem Try.zv47 : tyZeroV Try.prog 47 = some (.nilmap) := by kernel_rfl
@[simp] theorem Try.mp47 : tyMap Try.prog 47 = some (3, 3) := by kernel_rfl
@[simp] theorem Try.ag47 : tyAgg Try.prog 47 = some false := by kernel_rfl
@[simp] theorem Try.if47 : tyIface Try.prog 47 = some false := by kernel_rfl
attribute [simp] Try.underlying47
@[simp] theorem Try.th47 : (Try.prog.underlying 47).isSome = true := by kernel_rfl
@[simp] theorem Try.st47 : tyStr Try.prog 47 = false := by kernel_rfl
@[simp] theorem Try.in47 : tyInt Try.prog 47 = none := by kernel_rfl
@[simp] theorem Try.el47 : tyElem Try.prog 47 = none := by kernel_rfl
@[simp] theorem Try.ar47 : tyArr Try.prog 47 = none := by kernel_rfl
@[simp] theorem Try.sz49 : tySize Try.prog 49 = some 1 := by kernel_rfl
@[simp] theorem Try.by49 : tyBytes Try.prog 49 = some 8 := by kernel_rfl
@[simp] theorem Try.ze49 : tyZero Try.prog 49 = some [.nilptr] := by kernel_rfl
@[simp] theorem Try.zv49 : tyZeroV Try.prog 49 = some (.nilptr) := by kernel_rfl
@[simp] theorem Try.ag49 : tyAgg Try.prog 49 = some false := by kernel_rfl
@[simp] theorem Try.if49 : tyIface Try.prog 49 = some false := by kernel_rfl
attribute [simp] Try.underlying49
@[simp] theorem Try.th49 : (Try.prog.underlying 49).isSome = true := by kernel_rfl
@[simp] theorem Try.st49 : tyStr Try.prog 49 = false := by kernel_rfl
@[simp] theorem Try.in49 : tyInt Try.prog 49 = none := by kernel_rfl
@[simp] theorem Try.el49 : tyElem Try.prog 49 = none := by kernel_rfl
@[simp] theorem Try.ar49 : tyArr Try.prog 49 = none := by kernel_rfl
@[simp] theorem Try.sz50 : tySize Try.prog 50 = some 10 := by kernel_rfl
@[simp] theorem Try.by50 : tyBytes Try.prog 50 = some 112 := by kernel_rfl
@[simp] theorem Try.ze50 : tyZero Try.prog 50 = some [.int .i64 0, .int .i64 0, .int .i64 0, .sl 0 [] .nil, .int .i64 0, .int .i64 0, .sl 0 [] .nil, .int .i64 0, .bool false, .int .i64 0] := by kernel_rfl
@[simp] theorem Try.zv50 : tyZeroV Try.prog 50 = some (.agg [.int .i64 0, .int .i64 0, .int .i64 0, .sl 0 [] .nil, .int .i64 0, .int .i64 0, .sl 0 [] .nil, .int .i64 0, .bool false, .int .i64 0]) := by kernel_rfl
@[simp] theorem Try.ag50 : tyAgg Try.prog 50 = some true := by kernel_rfl
@[simp] theorem Try.if50 : tyIface Try.prog 50 = some false := by kernel_rfl
attribute [simp] Try.underlying50
@[simp] theorem Try.th50 : (Try.prog.underlying 50).isSome = true := by kernel_rfl
@[simp] theorem Try.st50 : tyStr Try.prog 50 = false := by kernel_rfl
@[simp] theorem Try.in50 : tyInt Try.prog 50 = none := by kernel_rfl
@[simp] theorem Try.el50 : tyElem Try.prog 50 = none := by kernel_rfl
@[simp] theorem Try.ar50 : tyArr Try.prog 50 = none := by kernel_rfl
@[simp] theorem Try.fi50_0 : tyField Try.prog 50 0 = some (0, 25) := by kernel_rfl
@[simp] theorem Try.fi50_1 : tyField Try.prog 50 1 = some (6, 22) := by kernel_rfl
@[simp] theorem Try.fi50_2 : tyField Try.prog 50 2 = some (7, 3) := by kernel_rfl
@[simp] theorem Try.fi50_3 : tyField Try.prog 50 3 = some (8, 4) := by kernel_rfl
@[simp] theorem Try.fi50_4 : tyField Try.prog 50 4 = some (9, 3) := by kernel_rfl
@[simp] theorem Try.pl50 : tyPlaces Try.prog 50 = some (.inl [(0, 6), (6, 1), (7, 1), (8, 1), (9, 1)]) := by kernel_rfl
@[simp] theorem Try.gu50 : Try.prog.eqGuardType Try.prog.depth 50 = false := by kernel_rfl
@[simp] theorem Try.si50 : Try.prog.stoodInHeld 50 = false := by kernel_rfl
@[simp] theorem Try.sz51 : tySize Try.prog 51 = some 10 := by kernel_rfl
@[simp] theorem Try.by51 : tyBytes Try.prog 51 = some 112 := by kernel_rfl
@[simp] theorem Try.ze51 : tyZero Try.prog 51 = some [.int .i64 0, .int .i64 0, .int .i64 0, .sl 0 [] .nil, .int .i64 0, .int .i64 0, .sl 0 [] .nil, .int .i64 0, .bool false, .int .i64 0] := by kernel_rfl
@[simp] theorem Try.zv51 : tyZeroV Try.prog 51 = some (.agg [.int .i64 0, .int .i64 0, .int .i64 0, .sl 0 [] .nil, .int .i64 0, .int .i64 0, .sl 0 [] .nil, .int .i64 0, .bool false, .int .i64 0]) := by kernel_rfl
@[simp] theorem Try.ag51 : tyAgg Try.prog 51 = some true := by kernel_rfl
@[simp] theorem Try.if51 : tyIface Try.prog 51 = some false := by kernel_rfl
attribute [simp] Try.underlying51
@[simp] theorem Try.th51 : (Try.prog.underlying 51).isSome = true := by kernel_rfl
@[simp] theorem Try.st51 : tyStr Try.prog 51 = false := by kernel_rfl
@[simp] theorem Try.in51 : tyInt Try.prog 51 = none := by kernel_rfl
@[simp] theorem Try.el51 : tyElem Try.prog 51 = none := by kernel_rfl
@[simp] theorem Try.ar51 : tyArr Try.prog 51 = none := by kernel_rfl
@[simp] theorem Try.fi51_0 : tyField Try.prog 51 0 = some (0, 25) := by kernel_rfl
@[simp] theorem Try.fi51_1 : tyField Try.prog 51 1 = some (6, 22) := by kernel_rfl
@[simp] theorem Try.fi51_2 : tyField Try.prog 51 2 = some (7, 3) := by kernel_rfl
@[simp] theorem Try.fi51_3 : tyField Try.prog 51 3 = some (8, 4) := by kernel_rfl
@[simp] theorem Try.fi51_4 : tyField Try.prog 51 4 = some (9, 3) := by kernel_rfl
@[simp] theorem Try.pl51 : tyPlaces Try.prog 51 = some (.inl [(0, 6), (6, 1), (7, 1), (8, 1), (9, 1)]) := by kernel_rfl
@[simp] theorem Try.gu51 : Try.prog.eqGuardType Try.prog.depth 51 = false := by kernel_rfl
@[simp] theorem Try.si51 : Try.prog.stoodInHeld 51 = false := by kernel_rfl
@[simp] theorem Try.sz52 : tySize Try.prog 52 = some 1 := by kernel_rfl
@[simp] theorem Try.by52 : tyBytes Try.prog 52 = some 8 := by kernel_rfl
@[simp] theorem Try.ze52 : tyZero Try.prog 52 = some [.nilfn] := by kernel_rfl
@[simp] theorem Try.zv52 : tyZeroV Try.prog 52 = some (.nilfn) := by kernel_rfl
@[simp] theorem Try.ag52 : tyAgg Try.prog 52 = some false := by kernel_rfl
@[simp] theorem Try.if52 : tyIface Try.prog 52 = some false := by kernel_rfl
attribute [simp] Try.underlying52
@[simp] theorem Try.th52 : (Try.prog.underlying 52).isSome = true := by kernel_rfl
@[simp] theorem Try.st52 : tyStr Try.prog 52 = false := by kernel_rfl
@[simp] theorem Try.in52 : tyInt Try.prog 52 = none := by kernel_rfl
@[simp] theorem Try.el52 : tyElem Try.prog 52 = none := by kernel_rfl
@[simp] theorem Try.ar52 : tyArr Try.prog 52 = none := by kernel_rfl
@[simp] theorem Try.sz53 : tySize Try.prog 53 = some 1 := by kernel_rfl
@[simp] theorem Try.by53 : tyBytes Try.prog 53 = some 8 := by kernel_rfl
@[simp] theorem Try.ze53 : tyZero Try.prog 53 = some [.nilfn] := by kernel_rfl
@[simp] theorem Try.zv53 : tyZeroV Try.prog 53 = some (.nilfn) := by kernel_rfl
@[simp] theorem Try.ag53 : tyAgg Try.prog 53 = some false := by kernel_rfl
@[simp] theorem Try.if53 : tyIface Try.prog 53 = some false := by kernel_rfl
attribute [simp] Try.underlying53
@[simp] theorem Try.th53 : (Try.prog.underlying 53).isSome = true := by kernel_rfl
@[simp] theorem Try.st53 : tyStr Try.prog 53 = false := by kernel_rfl
@[simp] theorem Try.in53 : tyInt Try.prog 53 = none := by kernel_rfl
@[simp] theorem Try.el53 : tyElem Try.prog 53 = none := by kernel_rfl
@[simp] theorem Try.ar53 : tyArr Try.prog 53 = none := by kernel_rfl
@[simp] theorem Try.sz54 : tySize Try.prog 54 = some 1 := by kernel_rfl
@[simp] theorem Try.by54 : tyBytes Try.prog 54 = some 8 := by kernel_rfl
@[simp] theorem Try.ze54 : tyZero Try.prog 54 = some [.nilmap] := by kernel_rfl
@[simp] theorem Try.zv54 : tyZeroV Try.prog 54 = some (.nilmap) := by kernel_rfl
@[simp] theorem Try.mp54 : tyMap Try.prog 54 = some (3, 53) := by kernel_rfl
@[simp] theorem Try.ag54 : tyAgg Try.prog 54 = some false := by kernel_rfl
@[simp] theorem Try.if54 : tyIface Try.prog 54 = some false := by kernel_rfl
attribute [simp] Try.underlying54
@[simp] theorem Try.th54 : (Try.prog.underlying 54).isSome = true := by kernel_rfl
@[simp] theorem Try.st54 : tyStr Try.prog 54 = false := by kernel_rfl
@[simp] theorem Try.in54 : tyInt Try.prog 54 = none := by kernel_rfl
@[simp] theorem Try.el54 : tyElem Try.prog 54 = none := by kernel_rfl
@[simp] theorem Try.ar54 : tyArr Try.prog 54 = none := by kernel_rfl
@[simp] theorem Try.sz55 : tySize Try.prog 55 = some 1 := by kernel_rfl
@[simp] theorem Try.by55 : tyBytes Try.prog 55 = some 8 := by kernel_rfl
@[simp] theorem Try.ze55 : tyZero Try.prog 55 = some [.nilfn] := by kernel_rfl
@[simp] theorem Try.zv55 : tyZeroV Try.prog 55 = some (.nilfn) := by kernel_rfl
@[simp] theorem Try.ag55 : tyAgg Try.prog 55 = some false := by kernel_rfl
@[simp] theorem Try.if55 : tyIface Try.prog 55 = some false := by kernel_rfl
attribute [simp] Try.underlying55
@[simp] theorem Try.th55 : (Try.prog.underlying 55).isSome = true := by kernel_rfl
@[simp] theorem Try.st55 : tyStr Try.prog 55 = false := by kernel_rfl
@[simp] theorem Try.in55 : tyInt Try.prog 55 = none := by kernel_rfl
@[simp] theorem Try.el55 : tyElem Try.prog 55 = none := by kernel_rfl
@[simp] theorem Try.ar55 : tyArr Try.prog 55 = none := by kernel_rfl
@[simp] theorem Try.sz56 : tySize Try.prog 56 = some 1 := by kernel_rfl
@[simp] theorem Try.by56 : tyBytes Try.prog 56 = some 8 := by kernel_rfl
@[simp] theorem Try.ze56 : tyZero Try.prog 56 = some [.nilfn] := by kernel_rfl
@[simp] theorem Try.zv56 : tyZeroV Try.prog 56 = some (.nilfn) := by kernel_rfl
@[simp] theorem Try.ag56 : tyAgg Try.prog 56 = some false := by kernel_rfl
@[simp] theorem Try.if56 : tyIface Try.prog 56 = some false := by kernel_rfl
attribute [simp] Try.underlying56
@[simp] theorem Try.th56 : (Try.prog.underlying 56).isSome = true := by kernel_rfl
@[simp] theorem Try.st56 : tyStr Try.prog 56 = false := by kernel_rfl
@[simp] theorem Try.in56 : tyInt Try.prog 56 = none := by kernel_rfl
@[simp] theorem Try.el56 : tyElem Try.prog 56 = none := by kernel_rfl
@[simp] theorem Try.ar56 : tyArr Try.prog 56 = none := by kernel_rfl
@[simp] theorem Try.sz57 : tySize Try.prog 57 = some 1 := by kernel_rfl
@[simp] theorem Try.by57 : tyBytes Try.prog 57 = some 8 := by kernel_rfl
@[simp] theorem Try.ze57 : tyZero Try.prog 57 = some [.nilfn] := by kernel_rfl
@[simp] theorem Try.zv57 : tyZeroV Try.prog 57 = some (.nilfn) := by kernel_rfl
@[simp] theorem Try.ag57 : tyAgg Try.prog 57 = some false := by kernel_rfl
@[simp] theorem Try.if57 : tyIface Try.prog 57 = some false := by kernel_rfl
attribute [simp] Try.underlying57
@[simp] theorem Try.th57 : (Try.prog.underlying 57).isSome = true := by kernel_rfl
@[simp] theorem Try.st57 : tyStr Try.prog 57 = false := by kernel_rfl
@[simp] theorem Try.in57 : tyInt Try.prog 57 = none := by kernel_rfl
@[simp] theorem Try.el57 : tyElem Try.prog 57 = none := by kernel_rfl
@[simp] theorem Try.ar57 : tyArr Try.prog 57 = none := by kernel_rfl
@[simp] theorem Try.sz58 : tySize Try.prog 58 = some 1 := by kernel_rfl
@[simp] theorem Try.by58 : tyBytes Try.prog 58 = some 8 := by kernel_rfl
@[simp] theorem Try.ze58 : tyZero Try.prog 58 = some [.nilfn] := by kernel_rfl
@[simp] theorem Try.zv58 : tyZeroV Try.prog 58 = some (.nilfn) := by kernel_rfl
@[simp] theorem Try.ag58 : tyAgg Try.prog 58 = some false := by kernel_rfl
@[simp] theorem Try.if58 : tyIface Try.prog 58 = some false := by kernel_rfl
attribute [simp] Try.underlying58
@[simp] theorem Try.th58 : (Try.prog.underlying 58).isSome = true := by kernel_rfl
@[simp] theorem Try.st58 : tyStr Try.prog 58 = false := by kernel_rfl
@[simp] theorem Try.in58 : tyInt Try.prog 58 = none := by kernel_rfl
@[simp] theorem Try.el58 : tyElem Try.prog 58 = none := by kernel_rfl
@[simp] theorem Try.ar58 : tyArr Try.prog 58 = none := by kernel_rfl
@[simp] theorem Try.sz59 : tySize Try.prog 59 = some 1 := by kernel_rfl
@[simp] theorem Try.by59 : tyBytes Try.prog 59 = some 8 := by kernel_rfl
@[simp] theorem Try.ze59 : tyZero Try.prog 59 = some [.nilfn] := by kernel_rfl
@[simp] theorem Try.zv59 : tyZeroV Try.prog 59 = some (.nilfn) := by kernel_rfl
@[simp] theorem Try.ag59 : tyAgg Try.prog 59 = some false := by kernel_rfl
@[simp] theorem Try.if59 : tyIface Try.prog 59 = some false := by kernel_rfl
attribute [simp] Try.underlying59
@[simp] theorem Try.th59 : (Try.prog.underlying 59).isSome = true := by kernel_rfl
@[simp] theorem Try.st59 : tyStr Try.prog 59 = false := by kernel_rfl
@[simp] theorem Try.in59 : tyInt Try.prog 59 = none := by kernel_rfl
@[simp] theorem Try.el59 : tyElem Try.prog 59 = none := by kernel_rfl
@[simp] theorem Try.ar59 : tyArr Try.prog 59 = none := by kernel_rfl
@[simp] theorem Try.sz60 : tySize Try.prog 60 = some 1 := by kernel_rfl
@[simp] theorem Try.by60 : tyBytes Try.prog 60 = some 24 := by kernel_rfl
@[simp] theorem Try.ze60 : tyZero Try.prog 60 = some [.sl 0 [] .nil] := by kernel_rfl
@[simp] theorem Try.zv60 : tyZeroV Try.prog 60 = some (.sl 0 [] .nil) := by kernel_rfl
@[simp] theorem Try.ag60 : tyAgg Try.prog 60 = some false := by kernel_rfl
@[simp] theorem Try.if60 : tyIface Try.prog 60 = some false := by kernel_rfl
@[simp] theorem Try.th60 : (Try.prog.underlying 60).isSome = true := by kernel_rfl
@[simp] theorem Try.st60 : tyStr Try.prog 60 = false := by kernel_rfl
@[simp] theorem Try.in60 : tyInt Try.prog 60 = none := by kernel_rfl
@[simp] theorem Try.el60 : tyElem Try.prog 60 = some 3 := by kernel_rfl
@[simp] theorem Try.ar60 : tyArr Try.prog 60 = none := by kernel_rfl
@[simp] theorem Try.sz61 : tySize Try.prog 61 = some 1 := by kernel_rfl
@[simp] theorem Try.by61 : tyBytes Try.prog 61 = some 8 := by kernel_rfl
@[simp] theorem Try.ze61 : tyZero Try.prog 61 = some [.nilfn] := by kernel_rfl
@[simp] theorem Try.zv61 : tyZeroV Try.prog 61 = some (.nilfn) := by kernel_rfl
@[simp] theorem Try.ag61 : tyAgg Try.prog 61 = some false := by kernel_rfl
@[simp] theorem Try.if61 : tyIface Try.prog 61 = some false := by kernel_rfl
attribute [simp] Try.underlying61
@[simp] theorem Try.th61 : (Try.prog.underlying 61).isSome = true := by kernel_rfl
@[simp] theorem Try.st61 : tyStr Try.prog 61 = false := by kernel_rfl
@[simp] theorem Try.in61 : tyInt Try.prog 61 = none := by kernel_rfl
@[simp] theorem Try.el61 : tyElem Try.prog 61 = none := by kernel_rfl
@[simp] theorem Try.ar61 : tyArr Try.prog 61 = none := by kernel_rfl
@[simp] theorem Try.sz62 : tySize Try.prog 62 = some 1 := by kernel_rfl
@[simp] theorem Try.by62 : tyBytes Try.prog 62 = some 8 := by kernel_rfl
@[simp] theorem Try.ze62 : tyZero Try.prog 62 = some [.nilfn] := by kernel_rfl
@[simp] theorem Try.zv62 : tyZeroV Try.prog 62 = some (.nilfn) := by kernel_rfl
@[simp] theorem Try.ag62 : tyAgg Try.prog 62 = some false := by kernel_rfl
@[simp] theorem Try.if62 : tyIface Try.prog 62 = some false := by kernel_rfl
attribute [simp] Try.underlying62
@[simp] theorem Try.th62 : (Try.prog.underlying 62).isSome = true := by kernel_rfl
@[simp] theorem Try.st62 : tyStr Try.prog 62 = false := by kernel_rfl
@[simp] theorem Try.in62 : tyInt Try.prog 62 = none := by kernel_rfl
@[simp] theorem Try.el62 : tyElem Try.prog 62 = none := by kernel_rfl
@[simp] theorem Try.ar62 : tyArr Try.prog 62 = none := by kernel_rfl
@[simp] theorem Try.sz63 : tySize Try.prog 63 = some 1 := by kernel_rfl
@[simp] theorem Try.by63 : tyBytes Try.prog 63 = some 8 := by kernel_rfl
@[simp] theorem Try.ze63 : tyZero Try.prog 63 = some [.nilfn] := by kernel_rfl
@[simp] theorem Try.zv63 : tyZeroV Try.prog 63 = some (.nilfn) := by kernel_rfl
@[simp] theorem Try.ag63 : tyAgg Try.prog 63 = some false := by kernel_rfl
@[simp] theorem Try.if63 : tyIface Try.prog 63 = some false := by kernel_rfl
attribute [simp] Try.underlying63
@[simp] theorem Try.th63 : (Try.prog.underlying 63).isSome = true := by kernel_rfl
@[simp] theorem Try.st63 : tyStr Try.prog 63 = false := by kernel_rfl
@[simp] theorem Try.in63 : tyInt Try.prog 63 = none := by kernel_rfl
@[simp] theorem Try.el63 : tyElem Try.prog 63 = none := by kernel_rfl
@[simp] theorem Try.ar63 : tyArr Try.prog 63 = none := by kernel_rfl
@[simp] theorem Try.sz64 : tySize Try.prog 64 = some 1 := by kernel_rfl
@[simp] theorem Try.by64 : tyBytes Try.prog 64 = some 8 := by kernel_rfl
@[simp] theorem Try.ze64 : tyZero Try.prog 64 = some [.nilfn] := by kernel_rfl
@[simp] theorem Try.zv64 : tyZeroV Try.prog 64 = some (.nilfn) := by kernel_rfl
@[simp] theorem Try.ag64 : tyAgg Try.prog 64 = some false := by kernel_rfl
@[simp] theorem Try.if64 : tyIface Try.prog 64 = some false := by kernel_rfl
attribute [simp] Try.underlying64
@[simp] theorem Try.th64 : (Try.prog.underlying 64).isSome = true := by kernel_rfl
@[simp] theorem Try.st64 : tyStr Try.prog 64 = false := by kernel_rfl
@[simp] theorem Try.in64 : tyInt Try.prog 64 = none := by kernel_rfl
@[simp] theorem Try.el64 : tyElem Try.prog 64 = none := by kernel_rfl
@[simp] theorem Try.ar64 : tyArr Try.prog 64 = none := by kernel_rfl
@[simp] theorem Try.sz65 : tySize Try.prog 65 = some 1 := by kernel_rfl
@[simp] theorem Try.by65 : tyBytes Try.prog 65 = some 8 := by kernel_rfl
@[simp] theorem Try.ze65 : tyZero Try.prog 65 = some [.nilfn] := by kernel_rfl
@[simp] theorem Try.zv65 : tyZeroV Try.prog 65 = some (.nilfn) := by kernel_rfl
@[simp] theorem Try.ag65 : tyAgg Try.prog 65 = some false := by kernel_rfl
@[simp] theorem Try.if65 : tyIface Try.prog 65 = some false := by kernel_rfl
attribute [simp] Try.underlying65
@[simp] theorem Try.th65 : (Try.prog.underlying 65).isSome = true := by kernel_rfl
@[simp] theorem Try.st65 : tyStr Try.prog 65 = false := by kernel_rfl
@[simp] theorem Try.in65 : tyInt Try.prog 65 = none := by kernel_rfl
@[simp] theorem Try.el65 : tyElem Try.prog 65 = none := by kernel_rfl
@[simp] theorem Try.ar65 : tyArr Try.prog 65 = none := by kernel_rfl
@[simp] theorem Try.sz66 : tySize Try.prog 66 = some 1 := by kernel_rfl
@[simp] theorem Try.by66 : tyBytes Try.prog 66 = some 8 := by kernel_rfl
@[simp] theorem Try.ze66 : tyZero Try.prog 66 = some [.nilfn] := by kernel_rfl
@[simp] theorem Try.zv66 : tyZeroV Try.prog 66 = some (.nilfn) := by kernel_rfl
@[simp] theorem Try.ag66 : tyAgg Try.prog 66 = some false := by kernel_rfl
@[simp] theorem Try.if66 : tyIface Try.prog 66 = some false := by kernel_rfl
attribute [simp] Try.underlying66
@[simp] theorem Try.th66 : (Try.prog.underlying 66).isSome = true := by kernel_rfl
@[simp] theorem Try.st66 : tyStr Try.prog 66 = false := by kernel_rfl
@[simp] theorem Try.in66 : tyInt Try.prog 66 = none := by kernel_rfl
@[simp] theorem Try.el66 : tyElem Try.prog 66 = none := by kernel_rfl
@[simp] theorem Try.ar66 : tyArr Try.prog 66 = none := by kernel_rfl
@[simp] theorem Try.sz69 : tySize Try.prog 69 = some 0 := by kernel_rfl
@[simp] theorem Try.by69 : tyBytes Try.prog 69 = some 0 := by kernel_rfl
@[simp] theorem Try.ze69 : tyZero Try.prog 69 = some [] := by kernel_rfl
@[simp] theorem Try.zv69 : tyZeroV Try.prog 69 = some (.agg []) := by kernel_rfl
@[simp] theorem Try.ag69 : tyAgg Try.prog 69 = some true := by kernel_rfl
@[simp] theorem Try.if69 : tyIface Try.prog 69 = some false := by kernel_rfl
attribute [simp] Try.underlying69
@[simp] theorem Try.th69 : (Try.prog.underlying 69).isSome = true := by kernel_rfl
@[simp] theorem Try.st69 : tyStr Try.prog 69 = false := by kernel_rfl
@[simp] theorem Try.in69 : tyInt Try.prog 69 = none := by kernel_rfl
@[simp] theorem Try.el69 : tyElem Try.prog 69 = none := by kernel_rfl
@[simp] theorem Try.ar69 : tyArr Try.prog 69 = some (0, 16) := by kernel_rfl
@[simp] theorem Try.pl69 : tyPlaces Try.prog 69 = some (.inr 1) := by kernel_rfl
@[simp] theorem Try.gu69 : Try.prog.eqGuardType Try.prog.depth 69 = false := by kernel_rfl
@[simp] theorem Try.sz72 : tySize Try.prog 72 = some 1 := by kernel_rfl
@[simp] theorem Try.by72 : tyBytes Try.prog 72 = some 8 := by kernel_rfl
@[simp] theorem Try.ze72 : tyZero Try.prog 72 = some [.nilfn] := by kernel_rfl
@[simp] theorem Try.zv72 : tyZeroV Try.prog 72 = some (.nilfn) := by kernel_rfl
@[simp] theorem Try.ag72 : tyAgg Try.prog 72 = some false := by kernel_rfl
@[simp] theorem Try.if72 : tyIface Try.prog 72 = some false := by kernel_rfl
attribute [simp] Try.underlying72
@[simp] theorem Try.th72 : (Try.prog.underlying 72).isSome = true := by kernel_rfl
@[simp] theorem Try.st72 : tyStr Try.prog 72 = false := by kernel_rfl
@[simp] theorem Try.in72 : tyInt Try.prog 72 = none := by kernel_rfl
@[simp] theorem Try.el72 : tyElem Try.prog 72 = none := by kernel_rfl
@[simp] theorem Try.ar72 : tyArr Try.prog 72 = none := by kernel_rfl
@[simp] theorem Try.sz73 : tySize Try.prog 73 = some 1 := by kernel_rfl
@[simp] theorem Try.by73 : tyBytes Try.prog 73 = some 4 := by kernel_rfl
@[simp] theorem Try.ze73 : tyZero Try.prog 73 = some [.int .u32 0] := by kernel_rfl
@[simp] theorem Try.zv73 : tyZeroV Try.prog 73 = some (.int .u32 0) := by kernel_rfl
@[simp] theorem Try.ag73 : tyAgg Try.prog 73 = some false := by kernel_rfl
@[simp] theorem Try.if73 : tyIface Try.prog 73 = some false := by kernel_rfl
attribute [simp] Try.underlying73
@[simp] theorem Try.th73 : (Try.prog.underlying 73).isSome = true := by kernel_rfl
@[simp] theorem Try.st73 : tyStr Try.prog 73 = false := by kernel_rfl
@[simp] theorem Try.in73 : tyInt Try.prog 73 = some .u32 := by kernel_rfl
@[simp] theorem Try.el73 : tyElem Try.prog 73 = none := by kernel_rfl
@[simp] theorem Try.ar73 : tyArr Try.prog 73 = none := by kernel_rfl
@[simp] theorem Try.sz77 : tySize Try.prog 77 = some 1 := by kernel_rfl
@[simp] theorem Try.by77 : tyBytes Try.prog 77 = some 8 := by kernel_rfl
@[simp] theorem Try.ze77 : tyZero Try.prog 77 = some [.nilptr] := by kernel_rfl
@[simp] theorem Try.zv77 : tyZeroV Try.prog 77 = some (.nilptr) := by kernel_rfl
@[simp] theorem Try.ag77 : tyAgg Try.prog 77 = some false := by kernel_rfl
@[simp] theorem Try.if77 : tyIface Try.prog 77 = some false := by kernel_rfl
attribute [simp] Try.underlying77
@[simp] theorem Try.th77 : (Try.prog.underlying 77).isSome = true := by kernel_rfl
@[simp] theorem Try.st77 : tyStr Try.prog 77 = false := by kernel_rfl
@[simp] theorem Try.in77 : tyInt Try.prog 77 = none := by kernel_rfl
@[simp] theorem Try.el77 : tyElem Try.prog 77 = none := by kernel_rfl
@[simp] theorem Try.ar77 : tyArr Try.prog 77 = none := by kernel_rfl
theorem Try.en3 : enters Try.prog 3 = true := by kernel_rfl
theorem Try.en4 : enters Try.prog 4 = true := by kernel_rfl
theorem Try.en5 : enters Try.prog 5 = true := by kernel_rfl
theorem Try.en6 : enters Try.prog 6 = true := by kernel_rfl
theorem Try.en7 : enters Try.prog 7 = true := by kernel_rfl
theorem Try.en8 : enters Try.prog 8 = true := by kernel_rfl
theorem Try.en9 : enters Try.prog 9 = true := by kernel_rfl
theorem Try.en10 : enters Try.prog 10 = true := by kernel_rfl
theorem Try.en11 : enters Try.prog 11 = true := by kernel_rfl
theorem Try.en12 : enters Try.prog 12 = true := by kernel_rfl
theorem Try.en13 : enters Try.prog 13 = true := by kernel_rfl
theorem Try.en14 : enters Try.prog 14 = true := by kernel_rfl
theorem Try.en15 : enters Try.prog 15 = true := by kernel_rfl
theorem Try.en16 : enters Try.prog 16 = true := by kernel_rfl
theorem Try.en17 : enters Try.prog 17 = true := by kernel_rfl
theorem Try.en18 : enters Try.prog 18 = true := by kernel_rfl
theorem Try.en19 : enters Try.prog 19 = true := by kernel_rfl
theorem Try.en20 : enters Try.prog 20 = true := by kernel_rfl
theorem Try.en21 : enters Try.prog 21 = true := by kernel_rfl
theorem Try.en22 : enters Try.prog 22 = true := by kernel_rfl
theorem Try.en23 : enters Try.prog 23 = true := by kernel_rfl
theorem Try.en24 : enters Try.prog 24 = true := by kernel_rfl
theorem Try.en25 : enters Try.prog 25 = true := by kernel_rfl
theorem Try.en26 : enters Try.prog 26 = true := by kernel_rfl
theorem Try.en27 : enters Try.prog 27 = true := by kernel_rfl
theorem Try.en28 : enters Try.prog 28 = true := by kernel_rfl
theorem Try.en29 : enters Try.prog 29 = true := by kernel_rfl
theorem Try.en30 : enters Try.prog 30 = true := by kernel_rfl
theorem Try.en31 : enters Try.prog 31 = true := by kernel_rfl
theorem Try.en32 : enters Try.prog 32 = true := by kernel_rfl
theorem Try.en33 : enters Try.prog 33 = true := by kernel_rfl
theorem Try.en34 : enters Try.prog 34 = true := by kernel_rfl
theorem Try.en35 : enters Try.prog 35 = true := by kernel_rfl
theorem Try.en36 : enters Try.prog 36 = true := by kernel_rfl
theorem Try.en37 : enters Try.prog 37 = true := by kernel_rfl
theorem Try.en38 : enters Try.prog 38 = true := by kernel_rfl
theorem Try.en39 : enters Try.prog 39 = true := by kernel_rfl
theorem Try.en40 : enters Try.prog 40 = true := by kernel_rfl
theorem Try.en41 : enters Try.prog 41 = true := by kernel_rfl
theorem Try.en42 : enters Try.prog 42 = true := by kernel_rfl
theorem Try.en43 : enters Try.prog 43 = true := by kernel_rfl
theorem Try.en44 : enters Try.prog 44 = true := by kernel_rfl
theorem Try.en45 : enters Try.prog 45 = true := by kernel_rfl
theorem Try.mixed : Try.prog.follows .mixedOrders = true := by kernel_rfl
end Go.Proofs
