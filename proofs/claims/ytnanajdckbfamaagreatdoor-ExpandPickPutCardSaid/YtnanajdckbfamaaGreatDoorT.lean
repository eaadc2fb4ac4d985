/- Closed facts on the translation's types and functions. -/
import Derived.Test.YtnanajdckbfamaaGreatDoorProg
import Derived.Test.YtnanajdckbfamaaGreatDoorA9
set_option maxHeartbeats 4000000
namespace Go.Proofs
open Go Go.Abs
@[simp] theorem Tryz.sz1 : tySize Tryz.prog 1 = some 1 := by kernel_rfl
@[simp] theorem Tryz.by1 : tyBytes Tryz.prog 1 = some 8 := by kernel_rfl
@[simp] theorem Tryz.ze1 : tyZero Tryz.prog 1 = some [.nilfn] := by kernel_rfl
@[simp] theorem Tryz.zv1 : tyZeroV Tryz.prog 1 = some (.nilfn) := by kernel_rfl
@[simp] theorem Tryz.ag1 : tyAgg Tryz.prog 1 = some false := by kernel_rfl
@[simp] theorem Tryz.if1 : tyIface Tryz.prog 1 = some false := by kernel_rfl
attribute [simp] Tryz.underlying1
@[simp] theorem Tryz.th1 : (Tryz.prog.underlying 1).isSome = true := by kernel_rfl
@[simp] theorem Tryz.st1 : tyStr Tryz.prog 1 = false := by kernel_rfl
@[simp] theorem Tryz.in1 : tyInt Tryz.prog 1 = none := by kernel_rfl
@[simp] theorem Tryz.el1 : tyElem Tryz.prog 1 = none := by kernel_rfl
@[simp] theorem Tryz.ar1 : tyArr Tryz.prog 1 = none := by kernel_rfl
@[simp] theorem Tryz.sz2 : tySize Tryz.prog 2 = some 1 := by kernel_rfl
@[simp] theorem Tryz.by2 : tyBytes Tryz.prog 2 = some 8 := by kernel_rfl
@[simp] theorem Tryz.ze2 : tyZero Tryz.prog 2 = some [.int .i64 0] := by kernel_rfl
@[simp] theorem Tryz.zv2 : tyZeroV Tryz.prog 2 = some (.int .i64 0) := by kernel_rfl
@[simp] theorem Tryz.ag2 : tyAgg Tryz.prog 2 = some false := by kernel_rfl
@[simp] theorem Tryz.if2 : tyIface Tryz.prog 2 = some false := by kernel_rfl
attribute [simp] Tryz.underlying2
@[simp] theorem Tryz.th2 : (Tryz.prog.underlying 2).isSome = true := by kernel_rfl
@[simp] theorem Tryz.st2 : tyStr Tryz.prog 2 = false := by kernel_rfl
@[simp] theorem Tryz.in2 : tyInt Tryz.prog 2 = some .i64 := by kernel_rfl
@[simp] theorem Tryz.el2 : tyElem Tryz.prog 2 = none := by kernel_rfl
@[simp] theorem Tryz.ar2 : tyArr Tryz.prog 2 = none := by kernel_rfl
@[simp] theorem Tryz.sz3 : tySize Tryz.prog 3 = some 1 := by kernel_rfl
@[simp] theorem Tryz.by3 : tyBytes Tryz.prog 3 = some 8 := by kernel_rfl
@[simp] theorem Tryz.ze3 : tyZero Tryz.prog 3 = some [.int .i64 0] := by kernel_rfl
@[simp] theorem Tryz.zv3 : tyZeroV Tryz.prog 3 = some (.int .i64 0) := by kernel_rfl
@[simp] theorem Tryz.ag3 : tyAgg Tryz.prog 3 = some false := by kernel_rfl
@[simp] theorem Tryz.if3 : tyIface Tryz.prog 3 = some false := by kernel_rfl
attribute [simp] Tryz.underlying3
@[simp] theorem Tryz.th3 : (Tryz.prog.underlying 3).isSome = true := by kernel_rfl
@[simp] theorem Tryz.st3 : tyStr Tryz.prog 3 = false := by kernel_rfl
@[simp] theorem Tryz.in3 : tyInt Tryz.prog 3 = some .i64 := by kernel_rfl
@[simp] theorem Tryz.el3 : tyElem Tryz.prog 3 = none := by kernel_rfl
@[simp] theorem Tryz.ar3 : tyArr Tryz.prog 3 = none := by kernel_rfl
@[simp] theorem Tryz.sz4 : tySize Tryz.prog 4 = some 1 := by kernel_rfl
@[simp] theorem Tryz.by4 : tyBytes Tryz.prog 4 = some 1 := by kernel_rfl
@[simp] theorem Tryz.ze4 : tyZero Tryz.prog 4 = some [.bool false] := by kernel_rfl
@[simp] theorem Tryz.zv4 : tyZeroV Tryz.prog 4 = some (.bool false) := by kernel_rfl
@[simp] theorem Tryz.ag4 : tyAgg Tryz.prog 4 = some false := by kernel_rfl
@[simp] theorem Tryz.if4 : tyIface Tryz.prog 4 = some false := by kernel_rfl
attribute [simp] Tryz.underlying4
@[simp] theorem Tryz.th4 : (Tryz.prog.underlying 4).isSome = true := by kernel_rfl
@[simp] theorem Tryz.st4 : tyStr Tryz.prog 4 = false := by kernel_rfl
@[simp] theorem Tryz.in4 : tyInt Tryz.prog 4 = none := by kernel_rfl
@[simp] theorem Tryz.el4 : tyElem Tryz.prog 4 = none := by kernel_rfl
@[simp] theorem Tryz.ar4 : tyArr Tryz.prog 4 = none := by kernel_rfl
@[simp] theorem Tryz.sz5 : tySize Tryz.prog 5 = some 1 := by kernel_rfl
@[simp] theorem Tryz.by5 : tyBytes Tryz.prog 5 = some 1 := by kernel_rfl
@[simp] theorem Tryz.ze5 : tyZero Tryz.prog 5 = some [.int .u8 0] := by kernel_rfl
@[simp] theorem Tryz.zv5 : tyZeroV Tryz.prog 5 = some (.int .u8 0) := by kernel_rfl
@[simp] theorem Tryz.ag5 : tyAgg Tryz.prog 5 = some false := by kernel_rfl
@[simp] theorem Tryz.if5 : tyIface Tryz.prog 5 = some false := by kernel_rfl
attribute [simp] Tryz.underlying5
@[simp] theorem Tryz.th5 : (Tryz.prog.underlying 5).isSome = true := by kernel_rfl
@[simp] theorem Tryz.st5 : tyStr Tryz.prog 5 = false := by kernel_rfl
@[simp] theorem Tryz.in5 : tyInt Tryz.prog 5 = some .u8 := by kernel_rfl
@[simp] theorem Tryz.el5 : tyElem Tryz.prog 5 = none := by kernel_rfl
@[simp] theorem Tryz.ar5 : tyArr Tryz.prog 5 = none := by kernel_rfl
@[simp] theorem Tryz.sz9 : tySize Tryz.prog 9 = some 1 := by kernel_rfl
@[simp] theorem Tryz.by9 : tyBytes Tryz.prog 9 = some 16 := by kernel_rfl
@[simp] theorem Tryz.ze9 : tyZero Tryz.prog 9 = some [.str ⟨#[]⟩] := by kernel_rfl
@[simp] theorem Tryz.zv9 : tyZeroV Tryz.prog 9 = some (.str ⟨#[]⟩) := by kernel_rfl
@[simp] theorem Tryz.ag9 : tyAgg Tryz.prog 9 = some false := by kernel_rfl
@[simp] theorem Tryz.if9 : tyIface Tryz.prog 9 = some false := by kernel_rfl
attribute [simp] Tryz.underlying9
@[simp] theorem Tryz.th9 : (Tryz.prog.underlying 9).isSome = true := by kernel_rfl
@[simp] theorem Tryz.st9 : tyStr Tryz.prog 9 = true := by kernel_rfl
@[simp] theorem Tryz.in9 : tyInt Tryz.prog 9 = none := by kernel_rfl
@[simp] theorem Tryz.el9 : tyElem Tryz.prog 9 = none := by kernel_rfl
@[simp] theorem Tryz.ar9 : tyArr Tryz.prog 9 = none := by kernel_rfl
@[simp] theorem Tryz.sz12 : tySize Tryz.prog 12 = some 1 := by kernel_rfl
@[simp] theorem Tryz.by12 : tyBytes Tryz.prog 12 = some 8 := by kernel_rfl
@[simp] theorem Tryz.ze12 : tyZero Tryz.prog 12 = some [.int .u64 0] := by kernel_rfl
@[simp] theorem Tryz.zv12 : tyZeroV Tryz.prog 12 = some (.int .u64 0) := by kernel_rfl
@[simp] theorem Tryz.ag12 : tyAgg Tryz.prog 12 = some false := by kernel_rfl
@[simp] theorem Tryz.if12 : tyIface Tryz.prog 12 = some false := by kernel_rfl
attribute [simp] Tryz.underlying12
@[simp] theorem Tryz.th12 : (Tryz.prog.underlying 12).isSome = true := by kernel_rfl
@[simp] theorem Tryz.st12 : tyStr Tryz.prog 12 = false := by kernel_rfl
@[simp] theorem Tryz.in12 : tyInt Tryz.prog 12 = some .u64 := by kernel_rfl
@[simp] theorem Tryz.el12 : tyElem Tryz.prog 12 = none := by kernel_rfl
@[simp] theorem Tryz.ar12 : tyArr Tryz.prog 12 = none := by kernel_rfl
@[simp] theorem Tryz.sz15 : tySize Tryz.prog 15 = some 1 := by kernel_rfl
@[simp] theorem Tryz.by15 : tyBytes Tryz.prog 15 = some 8 := by kernel_rfl
@[simp] theorem Tryz.ze15 : tyZero Tryz.prog 15 = some [.nilptr] := by kernel_rfl
@[simp] theorem Tryz.zv15 : tyZeroV Tryz.prog 15 = some (.nilptr) := by kernel_rfl
@[simp] theorem Tryz.ag15 : tyAgg Tryz.prog 15 = some false := by kernel_rfl
@[simp] theorem Tryz.if15 : tyIface Tryz.prog 15 = some false := by kernel_rfl
attribute [simp] Tryz.underlying15
@[simp] theorem Tryz.th15 : (Tryz.prog.underlying 15).isSome = true := by kernel_rfl
@[simp] theorem Tryz.st15 : tyStr Tryz.prog 15 = false := by kernel_rfl
@[simp] theorem Tryz.in15 : tyInt Tryz.prog 15 = none := by kernel_rfl
@[simp] theorem Tryz.el15 : tyElem Tryz.prog 15 = none := by kernel_rfl
@[simp] theorem Tryz.ar15 : tyArr Tryz.prog 15 = none := by kernel_rfl
@[simp] theorem Tryz.sz16 : tySize Tryz.prog 16 = some 1 := by kernel_rfl
@[simp] theorem Tryz.by16 : tyBytes Tryz.prog 16 = some 8 := by kernel_rfl
@[simp] theorem Tryz.ze16 : tyZero Tryz.prog 16 = some [.nilptr] := by kernel_rfl
@[simp] theorem Tryz.zv16 : tyZeroV Tryz.prog 16 = some (.nilptr) := by kernel_rfl
@[simp] theorem Tryz.ag16 : tyAgg Tryz.prog 16 = some false := by kernel_rfl
@[simp] theorem Tryz.if16 : tyIface Tryz.prog 16 = some false := by kernel_rfl
attribute [simp] Tryz.underlying16
@[simp] theorem Tryz.th16 : (Tryz.prog.underlying 16).isSome = true := by kernel_rfl
@[simp] theorem Tryz.st16 : tyStr Tryz.prog 16 = false := by kernel_rfl
@[simp] theorem Tryz.in16 : tyInt Tryz.prog 16 = none := by kernel_rfl
@[simp] theorem Tryz.el16 : tyElem Tryz.prog 16 = none := by kernel_rfl
@[simp] theorem Tryz.ar16 : tyArr Tryz.prog 16 = none := by kernel_rfl
@[simp] theorem Tryz.sz20 : tySize Tryz.prog 20 = some 1 := by kernel_rfl
@[simp] theorem Tryz.by20 : tyBytes Tryz.prog 20 = some 16 := by kernel_rfl
@[simp] theorem Tryz.ze20 : tyZero Tryz.prog 20 = some [.nilifc] := by kernel_rfl
@[simp] theorem Tryz.zv20 : tyZeroV Tryz.prog 20 = some (.nilifc) := by kernel_rfl
@[simp] theorem Tryz.ag20 : tyAgg Tryz.prog 20 = some false := by kernel_rfl
@[simp] theorem Tryz.if20 : tyIface Tryz.prog 20 = some true := by kernel_rfl
attribute [simp] Tryz.underlying20
@[simp] theorem Tryz.th20 : (Tryz.prog.underlying 20).isSome = true := by kernel_rfl
@[simp] theorem Tryz.st20 : tyStr Tryz.prog 20 = false := by kernel_rfl
@[simp] theorem Tryz.in20 : tyInt Tryz.prog 20 = none := by kernel_rfl
@[simp] theorem Tryz.el20 : tyElem Tryz.prog 20 = none := by kernel_rfl
@[simp] theorem Tryz.ar20 : tyArr Tryz.prog 20 = none := by kernel_rfl
@[simp] theorem Tryz.sz21 : tySize Tryz.prog 21 = some 1 := by kernel_rfl
@[simp] theorem Tryz.by21 : tyBytes Tryz.prog 21 = some 4 := by kernel_rfl
@[simp] theorem Tryz.ze21 : tyZero Tryz.prog 21 = some [.int .i32 0] := by kernel_rfl
@[simp] theorem Tryz.zv21 : tyZeroV Tryz.prog 21 = some (.int .i32 0) := by kernel_rfl
@[simp] theorem Tryz.ag21 : tyAgg Tryz.prog 21 = some false := by kernel_rfl
@[simp] theorem Tryz.if21 : tyIface Tryz.prog 21 = some false := by kernel_rfl
attribute [simp] Tryz.underlying21
@[simp] theorem Tryz.th21 : (Tryz.prog.underlying 21).isSome = true := by kernel_rfl
@[simp] theorem Tryz.st21 : tyStr Tryz.prog 21 = false := by kernel_rfl
@[simp] theorem Tryz.in21 : tyInt Tryz.prog 21 = some .i32 := by kernel_rfl
@[simp] theorem Tryz.el21 : tyElem Tryz.prog 21 = none := by kernel_rfl
@[simp] theorem Tryz.ar21 : tyArr Tryz.prog 21 = none := by kernel_rfl
@[simp] theorem Tryz.sz22 : tySize Tryz.prog 22 = some 2 := by kernel_rfl
@[simp] theorem Tryz.by22 : tyBytes Tryz.prog 22 = some 16 := by kernel_rfl
@[simp] theorem Tryz.ze22 : tyZero Tryz.prog 22 = some [.int .i64 0, .int .i64 0] := by kernel_rfl
@[simp] theorem Tryz.zv22 : tyZeroV Tryz.prog 22 = some (.agg [.int .i64 0, .int .i64 0]) := by kernel_rfl
@[simp] theorem Tryz.ag22 : tyAgg Tryz.prog 22 = some true := by kernel_rfl
@[simp] theorem Tryz.if22 : tyIface Tryz.prog 22 = some false := by kernel_rfl
attribute [simp] Tryz.underlying22
@[simp] theorem Tryz.th22 : (Tryz.prog.underlying 22).isSome = true := by kernel_rfl
@[simp] theorem Tryz.st22 : tyStr Tryz.prog 22 = false := by kernel_rfl
@[simp] theorem Tryz.in22 : tyInt Tryz.prog 22 = none := by kernel_rfl
@[simp] theorem Tryz.el22 : tyElem Tryz.prog 22 = none := by kernel_rfl
@[simp] theorem Tryz.ar22 : tyArr Tryz.prog 22 = none := by kernel_rfl
@[simp] theorem Tryz.fi22_0 : tyField Tryz.prog 22 0 = some (0, 3) := by kernel_rfl
@[simp] theorem Tryz.fi22_1 : tyField Tryz.prog 22 1 = some (1, 3) := by kernel_rfl
@[simp] theorem Tryz.pl22 : tyPlaces Tryz.prog 22 = some (.inl [(0, 1), (1, 1)]) := by kernel_rfl
@[simp] theorem Tryz.gu22 : Tryz.prog.eqGuardType Tryz.prog.depth 22 = false := by kernel_rfl
@[simp] theorem Tryz.si22 : Tryz.prog.stoodInHeld 22 = false := by kernel_rfl
@[simp] theorem Tryz.sz23 : tySize Tryz.prog 23 = some 2 := by kernel_rfl
@[simp] theorem Tryz.by23 : tyBytes Tryz.prog 23 = some 16 := by kernel_rfl
@[simp] theorem Tryz.ze23 : tyZero Tryz.prog 23 = some [.int .i64 0, .int .i64 0] := by kernel_rfl
@[simp] theorem Tryz.zv23 : tyZeroV Tryz.prog 23 = some (.agg [.int .i64 0, .int .i64 0]) := by kernel_rfl
@[simp] theorem Tryz.ag23 : tyAgg Tryz.prog 23 = some true := by kernel_rfl
@[simp] theorem Tryz.if23 : tyIface Tryz.prog 23 = some false := by kernel_rfl
attribute [simp] Tryz.underlying23
@[simp] theorem Tryz.th23 : (Tryz.prog.underlying 23).isSome = true := by kernel_rfl
@[simp] theorem Tryz.st23 : tyStr Tryz.prog 23 = false := by kernel_rfl
@[simp] theorem Tryz.in23 : tyInt Tryz.prog 23 = none := by kernel_rfl
@[simp] theorem Tryz.el23 : tyElem Tryz.prog 23 = none := by kernel_rfl
@[simp] theorem Tryz.ar23 : tyArr Tryz.prog 23 = none := by kernel_rfl
@[simp] theorem Tryz.fi23_0 : tyField Tryz.prog 23 0 = some (0, 3) := by kernel_rfl
@[simp] theorem Tryz.fi23_1 : tyField Tryz.prog 23 1 = some (1, 3) := by kernel_rfl
@[simp] theorem Tryz.pl23 : tyPlaces Tryz.prog 23 = some (.inl [(0, 1), (1, 1)]) := by kernel_rfl
@[simp] theorem Tryz.gu23 : Tryz.prog.eqGuardType Tryz.prog.depth 23 = false := by kernel_rfl
@[simp] theorem Tryz.si23 : Tryz.prog.stoodInHeld 23 = false := by kernel_rfl
@[simp] theorem Tryz.sz24 : tySize Tryz.prog 24 = some 3 := by kernel_rfl
@[simp] theorem Tryz.by24 : tyBytes Tryz.prog 24 = some 24 := by kernel_rfl
@[simp] theorem Tryz.ze24 : tyZero Tryz.prog 24 = some [.int .i64 0, .int .i64 0, .int .i64 0] := by kernel_rfl
@[simp] theorem Tryz.zv24 : tyZeroV Tryz.prog 24 = some (.agg [.int .i64 0, .int .i64 0, .int .i64 0]) := by kernel_rfl
@[simp] theorem Tryz.ag24 : tyAgg Tryz.prog 24 = some true := by kernel_rfl
@[simp] theorem Tryz.if24 : tyIface Tryz.prog 24 = some false := by kernel_rfl
attribute [simp] Tryz.underlying24
@[simp] theorem Tryz.th24 : (Tryz.prog.underlying 24).isSome = true := by kernel_rfl
@[simp] theorem Tryz.st24 : tyStr Tryz.prog 24 = false := by kernel_rfl
@[simp] theorem Tryz.in24 : tyInt Tryz.prog 24 = none := by kernel_rfl
@[simp] theorem Tryz.el24 : tyElem Tryz.prog 24 = none := by kernel_rfl
@[simp] theorem Tryz.ar24 : tyArr Tryz.prog 24 = some (3, 3) := by kernel_rfl
@[simp] theorem Tryz.pl24 : tyPlaces Tryz.prog 24 = some (.inr 1) := by kernel_rfl
@[simp] theorem Tryz.gu24 : Tryz.prog.eqGuardType Tryz.prog.depth 24 = false := by kernel_rfl
@[simp] theorem Tryz.sz25 : tySize Tryz.prog 25 = some 3 := by kernel_rfl
@[simp] theorem Tryz.by25 : tyBytes Tryz.prog 25 = some 24 := by kernel_rfl
@[simp] theorem Tryz.ze25 : tyZero Tryz.prog 25 = some [.int .i64 0, .int .i64 0, .int .i64 0] := by kernel_rfl
@[simp] theorem Tryz.zv25 : tyZeroV Tryz.prog 25 = some (.agg [.int .i64 0, .int .i64 0, .int .i64 0]) := by kernel_rfl
@[simp] theorem Tryz.ag25 : tyAgg Tryz.prog 25 = some true := by kernel_rfl
@[simp] theorem Tryz.if25 : tyIface Tryz.prog 25 = some false := by kernel_rfl
attribute [simp] Tryz.underlying25
@[simp] theorem Tryz.th25 : (Tryz.prog.underlying 25).isSome = true := by kernel_rfl
@[simp] theorem Tryz.st25 : tyStr Tryz.prog 25 = false := by kernel_rfl
@[simp] theorem Tryz.in25 : tyInt Tryz.prog 25 = none := by kernel_rfl
@[simp] theorem Tryz.el25 : tyElem Tryz.prog 25 = none := by kernel_rfl
@[simp] theorem Tryz.ar25 : tyArr Tryz.prog 25 = some (3, 3) := by kernel_rfl
@[simp] theorem Tryz.pl25 : tyPlaces Tryz.prog 25 = some (.inr 1) := by kernel_rfl
@[simp] theorem Tryz.gu25 : Tryz.prog.eqGuardType Tryz.prog.depth 25 = false := by kernel_rfl
@[simp] theorem Tryz.sz26 : tySize Tryz.prog 26 = some 12 := by kernel_rfl
@[simp] theorem Tryz.by26 : tyBytes Tryz.prog 26 = some 96 := by kernel_rfl
@[simp] theorem Tryz.ze26 : tyZero Tryz.prog 26 = some [.int .i64 0, .int .i64 0, .int .i64 0, .int .i64 0, .int .i64 0, .int .i64 0, .int .i64 0, .int .i64 0, .int .i64 0, .int .i64 0, .int .i64 0, .int .i64 0] := by kernel_rfl
@[simp] theorem Tryz.zv26 : tyZeroV Tryz.prog 26 = some (.agg [.int .i64 0, .int .i64 0, .int .i64 0, .int .i64 0, .int .i64 0, .int .i64 0, .int .i64 0, .int .i64 0, .int .i64 0, .int .i64 0, .int .i64 0, .int .i64 0]) := by kernel_rfl
@[simp] theorem Tryz.ag26 : tyAgg Tryz.prog 26 = some true := by kernel_rfl
@[simp] theorem Tryz.if26 : tyIface Tryz.prog 26 = some false := by kernel_rfl
attribute [simp] Tryz.underlying26
@[simp] theorem Tryz.th26 : (Tryz.prog.underlying 26).isSome = true := by kernel_rfl
@[simp] theorem Tryz.st26 : tyStr Tryz.prog 26 = false := by kernel_rfl
@[simp] theorem Tryz.in26 : tyInt Tryz.prog 26 = none := by kernel_rfl
@[simp] theorem Tryz.el26 : tyElem Tryz.prog 26 = none := by kernel_rfl
@[simp] theorem Tryz.ar26 : tyArr Tryz.prog 26 = none := by kernel_rfl
@[simp] theorem Tryz.fi26_0 : tyField Tryz.prog 26 0 = some (0, 23) := by kernel_rfl
@[simp] theorem Tryz.fi26_1 : tyField Tryz.prog 26 1 = some (2, 24) := by kernel_rfl
@[simp] theorem Tryz.fi26_2 : tyField Tryz.prog 26 2 = some (5, 3) := by kernel_rfl
@[simp] theorem Tryz.fi26_3 : tyField Tryz.prog 26 3 = some (6, 25) := by kernel_rfl
@[simp] theorem Tryz.fi26_4 : tyField Tryz.prog 26 4 = some (9, 25) := by kernel_rfl
@[simp] theorem Tryz.pl26 : tyPlaces Tryz.prog 26 = some (.inl [(0, 2), (2, 3), (5, 1), (6, 3), (9, 3)]) := by kernel_rfl
@[simp] theorem Tryz.gu26 : Tryz.prog.eqGuardType Tryz.prog.depth 26 = false := by kernel_rfl
@[simp] theorem Tryz.si26 : Tryz.prog.stoodInHeld 26 = false := by kernel_rfl
@[simp] theorem Tryz.sz27 : tySize Tryz.prog 27 = some 12 := by kernel_rfl
@[simp] theorem Tryz.by27 : tyBytes Tryz.prog 27 = some 96 := by kernel_rfl
@[simp] theorem Tryz.ze27 : tyZero Tryz.prog 27 = some [.int .i64 0, .int .i64 0, .int .i64 0, .int .i64 0, .int .i64 0, .int .i64 0, .int .i64 0, .int .i64 0, .int .i64 0, .int .i64 0, .int .i64 0, .int .i64 0] := by kernel_rfl
@[simp] theorem Tryz.zv27 : tyZeroV Tryz.prog 27 = some (.agg [.int .i64 0, .int .i64 0, .int .i64 0, .int .i64 0, .int .i64 0, .int .i64 0, .int .i64 0, .int .i64 0, .int .i64 0, .int .i64 0, .int .i64 0, .int .i64 0]) := by kernel_rfl
@[simp] theorem Tryz.ag27 : tyAgg Tryz.prog 27 = some true := by kernel_rfl
@[simp] theorem Tryz.if27 : tyIface Tryz.prog 27 = some false := by kernel_rfl
attribute [simp] Tryz.underlying27
@[simp] theorem Tryz.th27 : (Tryz.prog.underlying 27).isSome = true := by kernel_rfl
@[simp] theorem Tryz.st27 : tyStr Tryz.prog 27 = false := by kernel_rfl
@[simp] theorem Tryz.in27 : tyInt Tryz.prog 27 = none := by kernel_rfl
@[simp] theorem Tryz.el27 : tyElem Tryz.prog 27 = none := by kernel_rfl
@[simp] theorem Tryz.ar27 : tyArr Tryz.prog 27 = none := by kernel_rfl
@[simp] theorem Tryz.fi27_0 : tyField Tryz.prog 27 0 = some (0, 23) := by kernel_rfl
@[simp] theorem Tryz.fi27_1 : tyField Tryz.prog 27 1 = some (2, 24) := by kernel_rfl
@[simp] theorem Tryz.fi27_2 : tyField Tryz.prog 27 2 = some (5, 3) := by kernel_rfl
@[simp] theorem Tryz.fi27_3 : tyField Tryz.prog 27 3 = some (6, 25) := by kernel_rfl
@[simp] theorem Tryz.fi27_4 : tyField Tryz.prog 27 4 = some (9, 25) := by kernel_rfl
@[simp] theorem Tryz.pl27 : tyPlaces Tryz.prog 27 = some (.inl [(0, 2), (2, 3), (5, 1), (6, 3), (9, 3)]) := by kernel_rfl
@[simp] theorem Tryz.gu27 : Tryz.prog.eqGuardType Tryz.prog.depth 27 = false := by kernel_rfl
@[simp] theorem Tryz.si27 : Tryz.prog.stoodInHeld 27 = false := by kernel_rfl
@[simp] theorem Tryz.sz28 : tySize Tryz.prog 28 = some 24 := by kernel_rfl
@[simp] theorem Tryz.by28 : tyBytes Tryz.prog 28 = some 192 := by kernel_rfl
@[simp] theorem Tryz.ze28 : tyZero Tryz.prog 28 = some [.int .i64 0, .int .i64 0, .int .i64 0, .int .i64 0, .int .i64 0, .int .i64 0, .int .i64 0, .int .i64 0, .int .i64 0, .int .i64 0, .int .i64 0, .int .i64 0, .int .i64 0, .int .i64 0, .int .i64 0, .int .i64 0, .int .i64 0, .int .i64 0, .int .i64 0, .int .i64 0, .int .i64 0, .int .i64 0, .int .i64 0, .int .i64 0] := by kernel_rfl
@[simp] theorem Tryz.zv28 : tyZeroV Tryz.prog 28 = some (.agg [.int .i64 0, .int .i64 0, .int .i64 0, .int .i64 0, .int .i64 0, .int .i64 0, .int .i64 0, .int .i64 0, .int .i64 0, .int .i64 0, .int .i64 0, .int .i64 0, .int .i64 0, .int .i64 0, .int .i64 0, .int .i64 0, .int .i64 0, .int .i64 0, .int .i64 0, .int .i64 0, .int .i64 0, .int .i64 0, .int .i64 0, .int .i64 0]) := by kernel_rfl
@[simp] theorem Tryz.ag28 : tyAgg Tryz.prog 28 = some true := by kernel_rfl
@[simp] theorem Tryz.if28 : tyIface Tryz.prog 28 = some false := by kernel_rfl
attribute [simp] Tryz.underlying28
@[simp] theorem Tryz.th28 : (Tryz.prog.underlying 28).isSome = true := by kernel_rfl
@[simp] theorem Tryz.st28 : tyStr Tryz.prog 28 = false := by kernel_rfl
@[simp] theorem Tryz.in28 : tyInt Tryz.prog 28 = none := by kernel_rfl
@[simp] theorem Tryz.el28 : tyElem Tryz.prog 28 = none := by kernel_rfl
@[simp] theorem Tryz.ar28 : tyArr Tryz.prog 28 = some (2, 27) := by kernel_rfl
@[simp] theorem Tryz.pl28 : tyPlaces Tryz.prog 28 = some (.inr 12) := by kernel_rfl
@[simp] theorem Tryz.gu28 : Tryz.prog.eqGuardType Tryz.prog.depth 28 = false := by kernel_rfl
@[simp] theorem Tryz.sz29 : tySize Tryz.prog 29 = some 6 := by kernel_rfl
@[simp] theorem Tryz.by29 : tyBytes Tryz.prog 29 = some 48 := by kernel_rfl
@[simp] theorem Tryz.ze29 : tyZero Tryz.prog 29 = some [.int .i64 0, .int .i64 0, .int .i64 0, .int .i64 0, .int .i64 0, .int .i64 0] := by kernel_rfl
@[simp] theorem Tryz.zv29 : tyZeroV Tryz.prog 29 = some (.agg [.int .i64 0, .int .i64 0, .int .i64 0, .int .i64 0, .int .i64 0, .int .i64 0]) := by kernel_rfl
@[simp] theorem Tryz.ag29 : tyAgg Tryz.prog 29 = some true := by kernel_rfl
@[simp] theorem Tryz.if29 : tyIface Tryz.prog 29 = some false := by kernel_rfl
attribute [simp] Tryz.underlying29
@[simp] theorem Tryz.th29 : (Tryz.prog.underlying 29).isSome = true := by kernel_rfl
@[simp] theorem Tryz.st29 : tyStr Tryz.prog 29 = false := by kernel_rfl
@[simp] theorem Tryz.in29 : tyInt Tryz.prog 29 = none := by kernel_rfl
@[simp] theorem Tryz.el29 : tyElem Tryz.prog 29 = none := by kernel_rfl
@[simp] theorem Tryz.ar29 : tyArr Tryz.prog 29 = some (2, 25) := by kernel_rfl
@[simp] theorem Tryz.pl29 : tyPlaces Tryz.prog 29 = some (.inr 3) := by kernel_rfl
@[simp] theorem Tryz.gu29 : Tryz.prog.eqGuardType Tryz.prog.depth 29 = false := by kernel_rfl
@[simp] theorem Tryz.sz30 : tySize Tryz.prog 30 = some 1 := by kernel_rfl
@[simp] theorem Tryz.by30 : tyBytes Tryz.prog 30 = some 24 := by kernel_rfl
@[simp] theorem Tryz.ze30 : tyZero Tryz.prog 30 = some [.sl 0 [] .nil] := by kernel_rfl
@[simp] theorem Tryz.zv30 : tyZeroV Tryz.prog 30 = some (.sl 0 [] .nil) := by kernel_rfl
@[simp] theorem Tryz.ag30 : tyAgg Tryz.prog 30 = some false := by kernel_rfl
@[simp] theorem Tryz.if30 : tyIface Tryz.prog 30 = some false := by kernel_rfl
@[simp] theorem Tryz.th30 : (Tryz.prog.underlying 30).isSome = true := by kernel_rfl
@[simp] theorem Tryz.st30 : tyStr Tryz.prog 30 = false := by kernel_rfl
@[simp] theorem Tryz.in30 : tyInt Tryz.prog 30 = none := by kernel_rfl
@[simp] theorem Tryz.el30 : tyElem Tryz.prog 30 = some 77 := by kernel_rfl
@[simp] theorem Tryz.ar30 : tyArr Tryz.prog 30 = none := by kernel_rfl
@[simp] theorem Tryz.sz31 : tySize Tryz.prog 31 = some 1 := by kernel_rfl
@[simp] theorem Tryz.by31 : tyBytes Tryz.prog 31 = some 24 := by kernel_rfl
@[simp] theorem Tryz.ze31 : tyZero Tryz.prog 31 = some [.sl 0 [] .nil] := by kernel_rfl
@[simp] theorem Tryz.zv31 : tyZeroV Tryz.prog 31 = some (.sl 0 [] .nil) := by kernel_rfl
@[simp] theorem Tryz.ag31 : tyAgg Tryz.prog 31 = some false := by kernel_rfl
@[simp] theorem Tryz.if31 : tyIface Tryz.prog 31 = some false := by kernel_rfl
@[simp] theorem Tryz.th31 : (Tryz.prog.underlying 31).isSome = true := by kernel_rfl
@[simp] theorem Tryz.st31 : tyStr Tryz.prog 31 = false := by kernel_rfl
@[simp] theorem Tryz.in31 : tyInt Tryz.prog 31 = none := by kernel_rfl
@[simp] theorem Tryz.el31 : tyElem Tryz.prog 31 = some 68 := by kernel_rfl
@[simp] theorem Tryz.ar31 : tyArr Tryz.prog 31 = none := by kernel_rfl
@[simp] theorem Tryz.sz32 : tySize Tryz.prog 32 = some 1 := by kernel_rfl
@[simp] theorem Tryz.by32 : tyBytes Tryz.prog 32 = some 24 := by kernel_rfl
@[simp] theorem Tryz.ze32 : tyZero Tryz.prog 32 = some [.sl 0 [] .nil] := by kernel_rfl
@[simp] theorem Tryz.zv32 : tyZeroV Tryz.prog 32 = some (.sl 0 [] .nil) := by kernel_rfl
@[simp] theorem Tryz.ag32 : tyAgg Tryz.prog 32 = some false := by kernel_rfl
@[simp] theorem Tryz.if32 : tyIface Tryz.prog 32 = some false := by kernel_rfl
@[simp] theorem Tryz.th32 : (Tryz.prog.underlying 32).isSome = true := by kernel_rfl
@[simp] theorem Tryz.st32 : tyStr Tryz.prog 32 = false := by kernel_rfl
@[simp] theorem Tryz.in32 : tyInt Tryz.prog 32 = none := by kernel_rfl
@[simp] theorem Tryz.el32 : tyElem Tryz.prog 32 = some 79 := by kernel_rfl
@[simp] theorem Tryz.ar32 : tyArr Tryz.prog 32 = none := by kernel_rfl
@[simp] theorem Tryz.sz33 : tySize Tryz.prog 33 = some 1 := by kernel_rfl
@[simp] theorem Tryz.by33 : tyBytes Tryz.prog 33 = some 24 := by kernel_rfl
@[simp] theorem Tryz.ze33 : tyZero Tryz.prog 33 = some [.sl 0 [] .nil] := by kernel_rfl
@[simp] theorem Tryz.zv33 : tyZeroV Tryz.prog 33 = some (.sl 0 [] .nil) := by kernel_rfl
@[simp] theorem Tryz.ag33 : tyAgg Tryz.prog 33 = some false := by kernel_rfl
@[simp] theorem Tryz.if33 : tyIface Tryz.prog 33 = some false := by kernel_rfl
@[simp] theorem Tryz.th33 : (Tryz.prog.underlying 33).isSome = true := by kernel_rfl
@[simp] theorem Tryz.st33 : tyStr Tryz.prog 33 = false := by kernel_rfl
@[simp] theorem Tryz.in33 : tyInt Tryz.prog 33 = none := by kernel_rfl
@[simp] theorem Tryz.el33 : tyElem Tryz.prog 33 = some 3 := by kernel_rfl
@[simp] theorem Tryz.ar33 : tyArr Tryz.prog 33 = none := by kernel_rfl
@[simp] theorem Tryz.sz34 : tySize Tryz.prog 34 = some 3 := by kernel_rfl
@[simp] theorem Tryz.by34 : tyBytes Tryz.prog 34 = some 24 := by kernel_rfl
@[simp] theorem Tryz.ze34 : tyZero Tryz.prog 34 = some [.int .i64 0, .int .i64 0, .int .i64 0] := by kernel_rfl
@[simp] theorem Tryz.zv34 : tyZeroV Tryz.prog 34 = some (.agg [.int .i64 0, .int .i64 0, .int .i64 0]) := by kernel_rfl
@[simp] theorem Tryz.ag34 : tyAgg Tryz.prog 34 = some true := by kernel_rfl
@[simp] theorem Tryz.if34 : tyIface Tryz.prog 34 = some false := by kernel_rfl
attribute [simp] Tryz.underlying34
@[simp] theorem Tryz.th34 : (Tryz.prog.underlying 34).isSome = true := by kernel_rfl
@[simp] theorem Tryz.st34 : tyStr Tryz.prog 34 = false := by kernel_rfl
@[simp] theorem Tryz.in34 : tyInt Tryz.prog 34 = none := by kernel_rfl
@[simp] theorem Tryz.el34 : tyElem Tryz.prog 34 = none := by kernel_rfl
@[simp] theorem Tryz.ar34 : tyArr Tryz.prog 34 = none := by kernel_rfl
@[simp] theorem Tryz.fi34_0 : tyField Tryz.prog 34 0 = some (0, 3) := by kernel_rfl
@[simp] theorem Tryz.fi34_1 : tyField Tryz.prog 34 1 = some (1, 3) := by kernel_rfl
@[simp] theorem Tryz.fi34_2 : tyField Tryz.prog 34 2 = some (2, 3) := by kernel_rfl
@[simp] theorem Tryz.pl34 : tyPlaces Tryz.prog 34 = some (.inl [(0, 1), (1, 1), (2, 1)]) := by kernel_rfl
@[simp] theorem Tryz.gu34 : Tryz.prog.eqGuardType Tryz.prog.depth 34 = false := by kernel_rfl
@[simp] theorem Tryz.si34 : Tryz.prog.stoodInHeld 34 = false := by kernel_rfl
@[simp] theorem Tryz.sz35 : tySize Tryz.prog 35 = some 3 := by kernel_rfl
@[simp] theorem Tryz.by35 : tyBytes Tryz.prog 35 = some 24 := by kernel_rfl
@[simp] theorem Tryz.ze35 : tyZero Tryz.prog 35 = some [.int .i64 0, .int .i64 0, .int .i64 0] := by kernel_rfl
@[simp] theorem Tryz.zv35 : tyZeroV Tryz.prog 35 = some (.agg [.int .i64 0, .int .i64 0, .int .i64 0]) := by kernel_rfl
@[simp] theorem Tryz.ag35 : tyAgg Tryz.prog 35 = some true := by kernel_rfl
@[simp] theorem Tryz.if35 : tyIface Tryz.prog 35 = some false := by kernel_rfl
attribute [simp] Tryz.underlying35
@[simp] theorem Tryz.th35 : (Tryz.prog.underlying 35).isSome = true := by kernel_rfl
@[simp] theorem Tryz.st35 : tyStr Tryz.prog 35 = false := by kernel_rfl
@[simp] theorem Tryz.in35 : tyInt Tryz.prog 35 = none := by kernel_rfl
@[simp] theorem Tryz.el35 : tyElem Tryz.prog 35 = none := by kernel_rfl
@[simp] theorem Tryz.ar35 : tyArr Tryz.prog 35 = none := by kernel_rfl
@[simp] theorem Tryz.fi35_0 : tyField Tryz.prog 35 0 = some (0, 3) := by kernel_rfl
@[simp] theorem Tryz.fi35_1 : tyField Tryz.prog 35 1 = some (1, 3) := by kernel_rfl
@[simp] theorem Tryz.fi35_2 : tyField Tryz.prog 35 2 = some (2, 3) := by kernel_rfl
@[simp] theorem Tryz.pl35 : tyPlaces Tryz.prog 35 = some (.inl [(0, 1), (1, 1), (2, 1)]) := by kernel_rfl
@[simp] theorem Tryz.gu35 : Tryz.prog.eqGuardType Tryz.prog.depth 35 = false := by kernel_rfl
@[simp] theorem Tryz.si35 : Tryz.prog.stoodInHeld 35 = false := by kernel_rfl
@[simp] theorem Tryz.sz36 : tySize Tryz.prog 36 = some 1 := by kernel_rfl
@[simp] theorem Tryz.by36 : tyBytes Tryz.prog 36 = some 24 := by kernel_rfl
@[simp] theorem Tryz.ze36 : tyZero Tryz.prog 36 = some [.sl 0 [] .nil] := by kernel_rfl
@[simp] theorem Tryz.zv36 : tyZeroV Tryz.prog 36 = some (.sl 0 [] .nil) := by kernel_rfl
@[simp] theorem Tryz.ag36 : tyAgg Tryz.prog 36 = some false := by kernel_rfl
@[simp] theorem Tryz.if36 : tyIface Tryz.prog 36 = some false := by kernel_rfl
@[simp] theorem Tryz.th36 : (Tryz.prog.underlying 36).isSome = true := by kernel_rfl
@[simp] theorem Tryz.st36 : tyStr Tryz.prog 36 = false := by kernel_rfl
@[simp] theorem Tryz.in36 : tyInt Tryz.prog 36 = none := by kernel_rfl
@[simp] theorem Tryz.el36 : tyElem Tryz.prog 36 = some 103 := by kernel_rfl
@[simp] theorem Tryz.ar36 : tyArr Tryz.prog 36 = none := by kernel_rfl
@[simp] theorem Tryz.sz37 : tySize Tryz.prog 37 = some 44 := by kernel_rfl
@[simp] theorem Tryz.by37 : tyBytes Tryz.prog 37 = some 432 := by kernel_rfl
@[simp] theorem Tryz.ze37 : tyZero Tryz.prog 37 = some [.int .i64 0, .int .i64 0, .int .i64 0, .int .i64 0, .int .i64 0, .int .i64 0, .int .i64 0, .int .i64 0, .int .i64 0, .int .i64 0, .int .i64 0, .int .i64 0, .int .i64 0, .int .i64 0, .int .i64 0, .int .i64 0, .int .i64 0, .int .i64 0, .int .i64 0, .int .i64 0, .int .i64 0, .int .i64 0, .int .i64 0, .int .i64 0, .int .i64 0, .int .i64 0, .int .i64 0, .int .i64 0, .int .i64 0, .int .i64 0, .sl 0 [] .nil, .sl 0 [] .nil, .sl 0 [] .nil, .sl 0 [] .nil, .int .i64 0, .int .i64 0, .int .i64 0, .int .i64 0, .int .i64 0, .int .i64 0, .int .i64 0, .sl 0 [] .nil, .int .i64 0, .int .i64 0] := by kernel_rfl
@[simp] theorem Tryz.zv37 : tyZeroV Tryz.prog 37 = some (.agg [.int .i64 0, .int .i64 0, .int .i64 0, .int .i64 0, .int .i64 0, .int .i64 0, .int .i64 0, .int .i64 0, .int .i64 0, .int .i64 0, .int .i64 0, .int .i64 0, .int .i64 0, .int .i64 0, .int .i64 0, .int .i64 0, .int .i64 0, .int .i64 0, .int .i64 0, .int .i64 0, .int .i64 0, .int .i64 0, .int .i64 0, .int .i64 0, .int .i64 0, .int .i64 0, .int .i64 0, .int .i64 0, .int .i64 0, .int .i64 0, .sl 0 [] .nil, .sl 0 [] .nil, .sl 0 [] .nil, .sl 0 [] .nil, .int .i64 0, .int .i64 0, .int .i64 0, .int .i64 0, .int .i64 0, .int .i64 0, .int .i64 0, .sl 0 [] .nil, .int .i64 0, .int .i64 0]) := by kernel_rfl
@[simp] theorem Tryz.ag37 : tyAgg Tryz.prog 37 = some true := by kernel_rfl
@[simp] theorem Tryz.if37 : tyIface Tryz.prog 37 = some false := by kernel_rfl
attribute [simp] Tryz.underlying37
@[simp] theorem Tryz.th37 : (Tryz.prog.underlying 37).isSome = true := by kernel_rfl
@[simp] theorem Tryz.st37 : tyStr Tryz.prog 37 = false := by kernel_rfl
@[simp] theorem Tryz.in37 : tyInt Tryz.prog 37 = none := by kernel_rfl
@[simp] theorem Tryz.el37 : tyElem Tryz.prog 37 = none := by kernel_rfl
@[simp] theorem Tryz.ar37 : tyArr Tryz.prog 37 = none := by kernel_rfl
@[simp] theorem Tryz.fi37_0 : tyField Tryz.prog 37 0 = some (0, 28) := by kernel_rfl
@[simp] theorem Tryz.fi37_1 : tyField Tryz.prog 37 1 = some (24, 29) := by kernel_rfl
@[simp] theorem Tryz.fi37_2 : tyField Tryz.prog 37 2 = some (30, 30) := by kernel_rfl
@[simp] theorem Tryz.fi37_3 : tyField Tryz.prog 37 3 = some (31, 31) := by kernel_rfl
@[simp] theorem Tryz.fi37_4 : tyField Tryz.prog 37 4 = some (32, 32) := by kernel_rfl
@[simp] theorem Tryz.fi37_5 : tyField Tryz.prog 37 5 = some (33, 33) := by kernel_rfl
@[simp] theorem Tryz.fi37_6 : tyField Tryz.prog 37 6 = some (34, 3) := by kernel_rfl
@[simp] theorem Tryz.fi37_7 : tyField Tryz.prog 37 7 = some (35, 35) := by kernel_rfl
@[simp] theorem Tryz.fi37_8 : tyField Tryz.prog 37 8 = some (38, 35) := by kernel_rfl
@[simp] theorem Tryz.fi37_9 : tyField Tryz.prog 37 9 = some (41, 36) := by kernel_rfl
@[simp] theorem Tryz.fi37_10 : tyField Tryz.prog 37 10 = some (42, 3) := by kernel_rfl
@[simp] theorem Tryz.fi37_11 : tyField Tryz.prog 37 11 = some (43, 3) := by kernel_rfl
@[simp] theorem Tryz.pl37 : tyPlaces Tryz.prog 37 = some (.inl [(0, 24), (24, 6), (30, 1), (31, 1), (32, 1), (33, 1), (34, 1), (35, 3), (38, 3), (41, 1), (42, 1), (43, 1)]) := by kernel_rfl
@[simp] theorem Tryz.gu37 : Tryz.prog.eqGuardType Tryz.prog.depth 37 = false := by kernel_rfl
@[simp] theorem Tryz.si37 : Tryz.prog.stoodInHeld 37 = false := by kernel_rfl
@[simp] theorem Tryz.sz38 : tySize Tryz.prog 38 = some 44 := by kernel_rfl
@[simp] theorem Tryz.by38 : tyBytes Tryz.prog 38 = some 432 := by kernel_rfl
@[simp] theorem Tryz.ze38 : tyZero Tryz.prog 38 = some [.int .i64 0, .int .i64 0, .int .i64 0, .int .i64 0, .int .i64 0, .int .i64 0, .int .i64 0, .int .i64 0, .int .i64 0, .int .i64 0, .int .i64 0, .int .i64 0, .int .i64 0, .int .i64 0, .int .i64 0, .int .i64 0, .int .i64 0, .int .i64 0, .int .i64 0, .int .i64 0, .int .i64 0, .int .i64 0, .int .i64 0, .int .i64 0, .int .i64 0, .int .i64 0, .int .i64 0, .int .i64 0, .int .i64 0, .int .i64 0, .sl 0 [] .nil, .sl 0 [] .nil, .sl 0 [] .nil, .sl 0 [] .nil, .int .i64 0, .int .i64 0, .int .i64 0, .int .i64 0, .int .i64 0, .int .i64 0, .int .i64 0, .sl 0 [] .nil, .int .i64 0, .int .i64 0] := by kernel_rfl
@[simp] theorem Tryz.zv38 : tyZeroV Tryz.prog 38 = some (.agg [.int .i64 0, .int .i64 0, .int .i64 0, .int .i64 0, .int .i64 0, .int .i64 0, .int .i64 0, .int .i64 0, .int .i64 0, .int .i64 0, .int .i64 0, .int .i64 0, .int .i64 0, .int .i64 0, .int .i64 0, .int .i64 0, .int .i64 0, .int .i64 0, .int .i64 0, .int .i64 0, .int .i64 0, .int .i64 0, .int .i64 0, .int .i64 0, .int .i64 0, .int .i64 0, .int .i64 0, .int .i64 0, .int .i64 0, .int .i64 0, .sl 0 [] .nil, .sl 0 [] .nil, .sl 0 [] .nil, .sl 0 [] .nil, .int .i64 0, .int .i64 0, .int .i64 0, .int .i64 0, .int .i64 0, .int .i64 0, .int .i64 0, .sl 0 [] .nil, .int .i64 0, .int .i64 0]) := by kernel_rfl
@[simp] theorem Tryz.ag38 : tyAgg Tryz.prog 38 = some true := by kernel_rfl
@[simp] theorem Tryz.if38 : tyIface Tryz.prog 38 = some false := by kernel_rfl
attribute [simp] Tryz.underlying38
@[simp] theorem Tryz.th38 : (Tryz.prog.underlying 38).isSome = true := by kernel_rfl
@[simp] theorem Tryz.st38 : tyStr Tryz.prog 38 = false := by kernel_rfl
@[simp] theorem Tryz.in38 : tyInt Tryz.prog 38 = none := by kernel_rfl
@[simp] theorem Tryz.el38 : tyElem Tryz.prog 38 = none := by kernel_rfl
@[simp] theorem Tryz.ar38 : tyArr Tryz.prog 38 = none := by kernel_rfl
@[simp] theorem Tryz.fi38_0 : tyField Tryz.prog 38 0 = some (0, 28) := by kernel_rfl
@[simp] theorem Tryz.fi38_1 : tyField Tryz.prog 38 1 = some (24, 29) := by kernel_rfl
@[simp] theorem Tryz.fi38_2 : tyField Tryz.prog 38 2 = some (30, 30) := by kernel_rfl
@[simp] theorem Tryz.fi38_3 : tyField Tryz.prog 38 3 = some (31, 31) := by kernel_rfl
@[simp] theorem Tryz.fi38_4 : tyField Tryz.prog 38 4 = some (32, 32) := by kernel_rfl
@[simp] theorem Tryz.fi38_5 : tyField Tryz.prog 38 5 = some (33, 33) := by kernel_rfl
@[simp] theorem Tryz.fi38_6 : tyField Tryz.prog 38 6 = some (34, 3) := by kernel_rfl
@[simp] theorem Tryz.fi38_7 : tyField Tryz.prog 38 7 = some (35, 35) := by kernel_rfl
@[simp] theorem Tryz.fi38_8 : tyField Tryz.prog 38 8 = some (38, 35) := by kernel_rfl
@[simp] theorem Tryz.fi38_9 : tyField Tryz.prog 38 9 = some (41, 36) := by kernel_rfl
@[simp] theorem Tryz.fi38_10 : tyField Tryz.prog 38 10 = some (42, 3) := by kernel_rfl
@[simp] theorem Tryz.fi38_11 : tyField Tryz.prog 38 11 = some (43, 3) := by kernel_rfl
@[simp] theorem Tryz.pl38 : tyPlaces Tryz.prog 38 = some (.inl [(0, 24), (24, 6), (30, 1), (31, 1), (32, 1), (33, 1), (34, 1), (35, 3), (38, 3), (41, 1), (42, 1), (43, 1)]) := by kernel_rfl
@[simp] theorem Tryz.gu38 : Tryz.prog.eqGuardType Tryz.prog.depth 38 = false := by kernel_rfl
@[simp] theorem Tryz.si38 : Tryz.prog.stoodInHeld 38 = false := by kernel_rfl
@[simp] theorem Tryz.sz39 : tySize Tryz.prog 39 = some 1 := by kernel_rfl
@[simp] theorem Tryz.by39 : tyBytes Tryz.prog 39 = some 24 := by kernel_rfl
@[simp] theorem Tryz.ze39 : tyZero Tryz.prog 39 = some [.sl 0 [] .nil] := by kernel_rfl
@[simp] theorem Tryz.zv39 : tyZeroV Tryz.prog 39 = some (.sl 0 [] .nil) := by kernel_rfl
@[simp] theorem Tryz.ag39 : tyAgg Tryz.prog 39 = some false := by kernel_rfl
@[simp] theorem Tryz.if39 : tyIface Tryz.prog 39 = some false := by kernel_rfl
@[simp] theorem Tryz.th39 : (Tryz.prog.underlying 39).isSome = true := by kernel_rfl
@[simp] theorem Tryz.st39 : tyStr Tryz.prog 39 = false := by kernel_rfl
@[simp] theorem Tryz.in39 : tyInt Tryz.prog 39 = none := by kernel_rfl
@[simp] theorem Tryz.el39 : tyElem Tryz.prog 39 = some 75 := by kernel_rfl
@[simp] theorem Tryz.ar39 : tyArr Tryz.prog 39 = none := by kernel_rfl
@[simp] theorem Tryz.sz40 : tySize Tryz.prog 40 = some 2 := by kernel_rfl
@[simp] theorem Tryz.by40 : tyBytes Tryz.prog 40 = some 16 := by kernel_rfl
@[simp] theorem Tryz.ze40 : tyZero Tryz.prog 40 = some [.int .i64 0, .int .i64 0] := by kernel_rfl
@[simp] theorem Tryz.zv40 : tyZeroV Tryz.prog 40 = some (.agg [.int .i64 0, .int .i64 0]) := by kernel_rfl
@[simp] theorem Tryz.ag40 : tyAgg Tryz.prog 40 = some true := by kernel_rfl
@[simp] theorem Tryz.if40 : tyIface Tryz.prog 40 = some false := by kernel_rfl
attribute [simp] Tryz.underlying40
@[simp] theorem Tryz.th40 : (Tryz.prog.underlying 40).isSome = true := by kernel_rfl
@[simp] theorem Tryz.st40 : tyStr Tryz.prog 40 = false := by kernel_rfl
@[simp] theorem Tryz.in40 : tyInt Tryz.prog 40 = none := by kernel_rfl
@[simp] theorem Tryz.el40 : tyElem Tryz.prog 40 = none := by kernel_rfl
@[simp] theorem Tryz.ar40 : tyArr Tryz.prog 40 = some (2, 3) := by kernel_rfl
@[simp] theorem Tryz.pl40 : tyPlaces Tryz.prog 40 = some (.inr 1) := by kernel_rfl
@[simp] theorem Tryz.gu40 : Tryz.prog.eqGuardType Tryz.prog.depth 40 = false := by kernel_rfl
@[simp] theorem Tryz.sz41 : tySize Tryz.prog 41 = some 9 := by kernel_rfl
@[simp] theorem Tryz.by41 : tyBytes Tryz.prog 41 = some 88 := by kernel_rfl
@[simp] theorem Tryz.ze41 : tyZero Tryz.prog 41 = some [.int .i64 0, .int .i64 0, .int .i64 0, .int .i64 0, .int .i64 0, .int .i64 0, .int .i64 0, .int .i64 0, .sl 0 [] .nil] := by kernel_rfl
@[simp] theorem Tryz.zv41 : tyZeroV Tryz.prog 41 = some (.agg [.int .i64 0, .int .i64 0, .int .i64 0, .int .i64 0, .int .i64 0, .int .i64 0, .int .i64 0, .int .i64 0, .sl 0 [] .nil]) := by kernel_rfl
@[simp] theorem Tryz.ag41 : tyAgg Tryz.prog 41 = some true := by kernel_rfl
@[simp] theorem Tryz.if41 : tyIface Tryz.prog 41 = some false := by kernel_rfl
attribute [simp] Tryz.underlying41
@[simp] theorem Tryz.th41 : (Tryz.prog.underlying 41).isSome = true := by kernel_rfl
@[simp] theorem Tryz.st41 : tyStr Tryz.prog 41 = false := by kernel_rfl
@[simp] theorem Tryz.in41 : tyInt Tryz.prog 41 = none := by kernel_rfl
@[simp] theorem Tryz.el41 : tyElem Tryz.prog 41 = none := by kernel_rfl
@[simp] theorem Tryz.ar41 : tyArr Tryz.prog 41 = none := by kernel_rfl
@[simp] theorem Tryz.fi41_0 : tyField Tryz.prog 41 0 = some (0, 29) := by kernel_rfl
@[simp] theorem Tryz.fi41_1 : tyField Tryz.prog 41 1 = some (6, 40) := by kernel_rfl
@[simp] theorem Tryz.fi41_2 : tyField Tryz.prog 41 2 = some (8, 33) := by kernel_rfl
@[simp] theorem Tryz.pl41 : tyPlaces Tryz.prog 41 = some (.inl [(0, 6), (6, 2), (8, 1)]) := by kernel_rfl
@[simp] theorem Tryz.gu41 : Tryz.prog.eqGuardType Tryz.prog.depth 41 = false := by kernel_rfl
@[simp] theorem Tryz.si41 : Tryz.prog.stoodInHeld 41 = false := by kernel_rfl
@[simp] theorem Tryz.sz42 : tySize Tryz.prog 42 = some 9 := by kernel_rfl
@[simp] theorem Tryz.by42 : tyBytes Tryz.prog 42 = some 88 := by kernel_rfl
@[simp] theorem Tryz.ze42 : tyZero Tryz.prog 42 = some [.int .i64 0, .int .i64 0, .int .i64 0, .int .i64 0, .int .i64 0, .int .i64 0, .int .i64 0, .int .i64 0, .sl 0 [] .nil] := by kernel_rfl
@[simp] theorem Tryz.zv42 : tyZeroV Tryz.prog 42 = some (.agg [.int .i64 0, .int .i64 0, .int .i64 0, .int .i64 0, .int .i64 0, .int .i64 0, .int .i64 0, .int .i64 0, .sl 0 [] .nil]) := by kernel_rfl
@[simp] theorem Tryz.ag42 : tyAgg Tryz.prog 42 = some true := by kernel_rfl
@[simp] theorem Tryz.if42 : tyIface Tryz.prog 42 = some false := by kernel_rfl
attribute [simp] Tryz.underlying42
@[simp] theorem Tryz.th42 : (Tryz.prog.underlying 42).isSome = true := by kernel_rfl
@[simp] theorem Tryz.st42 : tyStr Tryz.prog 42 = false := by kernel_rfl
@[simp] theorem Tryz.in42 : tyInt Tryz.prog 42 = none := by kernel_rfl
@[simp] theorem Tryz.el42 : tyElem Tryz.prog 42 = none := by kernel_rfl
@[simp] theorem Tryz.ar42 : tyArr Tryz.prog 42 = none := by kernel_rfl
@[simp] theorem Tryz.fi42_0 : tyField Tryz.prog 42 0 = some (0, 29) := by kernel_rfl
@[simp] theorem Tryz.fi42_1 : tyField Tryz.prog 42 1 = some (6, 40) := by kernel_rfl
@[simp] theorem Tryz.fi42_2 : tyField Tryz.prog 42 2 = some (8, 33) := by kernel_rfl
@[simp] theorem Tryz.pl42 : tyPlaces Tryz.prog 42 = some (.inl [(0, 6), (6, 2), (8, 1)]) := by kernel_rfl
@[simp] theorem Tryz.gu42 : Tryz.prog.eqGuardType Tryz.prog.depth 42 = false := by kernel_rfl
@[simp] theorem Tryz.si42 : Tryz.prog.stoodInHeld 42 = false := by kernel_rfl
@[simp] theorem Tryz.sz43 : tySize Tryz.prog 43 = some 11 := by kernel_rfl
@[simp] theorem Tryz.by43 : tyBytes Tryz.prog 43 = some 88 := by kernel_rfl
@[simp] theorem Tryz.ze43 : tyZero Tryz.prog 43 = some [.int .i64 0, .int .i64 0, .int .i64 0, .int .i64 0, .int .i64 0, .int .i64 0, .int .i64 0, .int .i64 0, .int .i64 0, .int .i64 0, .int .i64 0] := by kernel_rfl
@[simp] theorem Tryz.zv43 : tyZeroV Tryz.prog 43 = some (.agg [.int .i64 0, .int .i64 0, .int .i64 0, .int .i64 0, .int .i64 0, .int .i64 0, .int .i64 0, .int .i64 0, .int .i64 0, .int .i64 0, .int .i64 0]) := by kernel_rfl
@[simp] theorem Tryz.ag43 : tyAgg Tryz.prog 43 = some true := by kernel_rfl
@[simp] theorem Tryz.if43 : tyIface Tryz.prog 43 = some false := by kernel_rfl
attribute [simp] Tryz.underlying43
@[simp] theorem Tryz.th43 : (Tryz.prog.underlying 43).isSome = true := by kernel_rfl
@[simp] theorem Tryz.st43 : tyStr Tryz.prog 43 = false := by kernel_rfl
@[simp] theorem Tryz.in43 : tyInt Tryz.prog 43 = none := by kernel_rfl
@[simp] theorem Tryz.el43 : tyElem Tryz.prog 43 = none := by kernel_rfl
@[simp] theorem Tryz.ar43 : tyArr Tryz.prog 43 = none := by kernel_rfl
@[simp] theorem Tryz.fi43_0 : tyField Tryz.prog 43 0 = some (0, 3) := by kernel_rfl
@[simp] theorem Tryz.fi43_1 : tyField Tryz.prog 43 1 = some (1, 3) := by kernel_rfl
@[simp] theorem Tryz.fi43_2 : tyField Tryz.prog 43 2 = some (2, 3) := by kernel_rfl
@[simp] theorem Tryz.fi43_3 : tyField Tryz.prog 43 3 = some (3, 3) := by kernel_rfl
@[simp] theorem Tryz.fi43_4 : tyField Tryz.prog 43 4 = some (4, 3) := by kernel_rfl
@[simp] theorem Tryz.fi43_5 : tyField Tryz.prog 43 5 = some (5, 29) := by kernel_rfl
@[simp] theorem Tryz.pl43 : tyPlaces Tryz.prog 43 = some (.inl [(0, 1), (1, 1), (2, 1), (3, 1), (4, 1), (5, 6)]) := by kernel_rfl
@[simp] theorem Tryz.gu43 : Tryz.prog.eqGuardType Tryz.prog.depth 43 = false := by kernel_rfl
@[simp] theorem Tryz.si43 : Tryz.prog.stoodInHeld 43 = false := by kernel_rfl
@[simp] theorem Tryz.sz44 : tySize Tryz.prog 44 = some 11 := by kernel_rfl
@[simp] theorem Tryz.by44 : tyBytes Tryz.prog 44 = some 88 := by kernel_rfl
@[simp] theorem Tryz.ze44 : tyZero Tryz.prog 44 = some [.int .i64 0, .int .i64 0, .int .i64 0, .int .i64 0, .int .i64 0, .int .i64 0, .int .i64 0, .int .i64 0, .int .i64 0, .int .i64 0, .int .i64 0] := by kernel_rfl
@[simp] theorem Tryz.zv44 : tyZeroV Tryz.prog 44 = some (.agg [.int .i64 0, .int .i64 0, .int .i64 0, .int .i64 0, .int .i64 0, .int .i64 0, .int .i64 0, .int .i64 0, .int .i64 0, .int .i64 0, .int .i64 0]) := by kernel_rfl
@[simp] theorem Tryz.ag44 : tyAgg Tryz.prog 44 = some true := by kernel_rfl
@[simp] theorem Tryz.if44 : tyIface Tryz.prog 44 = some false := by kernel_rfl
attribute [simp] Tryz.underlying44
@[simp] theorem Tryz.th44 : (Tryz.prog.underlying 44).isSome = true := by kernel_rfl
@[simp] theorem Tryz.st44 : tyStr Tryz.prog 44 = false := by kernel_rfl
@[simp] theorem Tryz.in44 : tyInt Tryz.prog 44 = none := by kernel_rfl
@[simp] theorem Tryz.el44 : tyElem Tryz.prog 44 = none := by kernel_rfl
@[simp] theorem Tryz.ar44 : tyArr Tryz.prog 44 = none := by kernel_rfl
@[simp] theorem Tryz.fi44_0 : tyField Tryz.prog 44 0 = some (0, 3) := by kernel_rfl
@[simp] theorem Tryz.fi44_1 : tyField Tryz.prog 44 1 = some (1, 3) := by kernel_rfl
@[simp] theorem Tryz.fi44_2 : tyField Tryz.prog 44 2 = some (2, 3) := by kernel_rfl
@[simp] theorem Tryz.fi44_3 : tyField Tryz.prog 44 3 = some (3, 3) := by kernel_rfl
@[simp] theorem Tryz.fi44_4 : tyField Tryz.prog 44 4 = some (4, 3) := by kernel_rfl
@[simp] theorem Tryz.fi44_5 : tyField Tryz.prog 44 5 = some (5, 29) := by kernel_rfl
@[simp] theorem Tryz.pl44 : tyPlaces Tryz.prog 44 = some (.inl [(0, 1), (1, 1), (2, 1), (3, 1), (4, 1), (5, 6)]) := by kernel_rfl
@[simp] theorem Tryz.gu44 : Tryz.prog.eqGuardType Tryz.prog.depth 44 = false := by kernel_rfl
@[simp] theorem Tryz.si44 : Tryz.prog.stoodInHeld 44 = false := by kernel_rfl
@[simp] theorem Tryz.sz45 : tySize Tryz.prog 45 = some 1 := by kernel_rfl
@[simp] theorem Tryz.by45 : tyBytes Tryz.prog 45 = some 8 := by kernel_rfl
@[simp] theorem Tryz.ze45 : tyZero Tryz.prog 45 = some [.nilfn] := by kernel_rfl
@[simp] theorem Tryz.zv45 : tyZeroV Tryz.prog 45 = some (.nilfn) := by kernel_rfl
@[simp] theorem Tryz.ag45 : tyAgg Tryz.prog 45 = some false := by kernel_rfl
@[simp] theorem Tryz.if45 : tyIface Tryz.prog 45 = some false := by kernel_rfl
attribute [simp] Tryz.underlying45
@[simp] theorem Tryz.th45 : (Tryz.prog.underlying 45).isSome = true := by kernel_rfl
@[simp] theorem Tryz.st45 : tyStr Tryz.prog 45 = false := by kernel_rfl
@[simp] theorem Tryz.in45 : tyInt Tryz.prog 45 = none := by kernel_rfl
@[simp] theorem Tryz.el45 : tyElem Tryz.prog 45 = none := by kernel_rfl
@[simp] theorem Tryz.ar45 : tyArr Tryz.prog 45 = none := by kernel_rfl
@[simp] theorem Tryz.sz46 : tySize Tryz.prog 46 = some 1 := by kernel_rfl
@[simp] theorem Tryz.by46 : tyBytes Tryz.prog 46 = some 8 := by kernel_rfl
@[simp] theorem Tryz.ze46 : tyZero Tryz.prog 46 = some [.nilfn] := by kernel_rfl
@[simp] theorem Tryz.zv46 : tyZeroV Tryz.prog 46 = some (.nilfn) := by kernel_rfl
@[simp] theorem Tryz.ag46 : tyAgg Tryz.prog 46 = some false := by kernel_rfl
@[simp] theorem Tryz.if46 : tyIface Tryz.prog 46 = some false := by kernel_rfl
attribute [simp] Tryz.underlying46
@[simp] theorem Tryz.th46 : (Tryz.prog.underlying 46).isSome = true := by kernel_rfl
@[simp] theorem Tryz.st46 : tyStr Tryz.prog 46 = false := by kernel_rfl
@[simp] theorem Tryz.in46 : tyInt Tryz.prog 46 = none := by kernel_rfl
@[simp] theorem Tryz.el46 : tyElem Tryz.prog 46 = none := by kernel_rfl
@[simp] theorem Tryz.ar46 : tyArr Tryz.prog 46 = none := by kernel_rfl
@[simp] theorem Tryz.sz47 : tySize Tryz.prog 47 = some 1 := by kernel_rfl
@[simp] theorem Tryz.by47 : tyBytes Tryz.prog 47 = some 24 := by kernel_rfl
@[simp] theorem Tryz.ze47 : tyZero Tryz.prog 47 = some [.sl 0 [] .nil] := by kernel_rfl
@[simp] theorem Tryz.zv47 : tyZeroV Tryz.prog 47 = some (.sl 0 [] .nil) := by kernel_rfl
@[simp] theorem Tryz.ag47 : tyAgg Tryz.prog 47 = some false := by kernel_rfl
@[simp] theorem Tryz.if47 : tyIface Tryz.prog 47 = some false := by kernel_rfl
@[simp] theorem Tryz.th47 : (Tryz.prog.underlying 47).isSome = true := by kernel_rfl
@[simp] theorem Tryz.st47 : tyStr Tryz.prog 47 = false := by kernel_rfl
@[simp] theorem Tryz.in47 : tyInt Tryz.prog 47 = none := by kernel_rfl
@[simp] theorem Tryz.el47 : tyElem Tryz.prog 47 = some 81 := by kernel_rfl
@[simp] theorem Tryz.ar47 : tyArr Tryz.prog 47 = none := by kernel_rfl
@[simp] theorem Tryz.sz48 : tySize Tryz.prog 48 = some 1 := by kernel_rfl
@[simp] theorem Tryz.by48 : tyBytes Tryz.prog 48 = some 8 := by kernel_rfl
@[simp] theorem Tryz.ze48 : tyZero Tryz.prog 48 = some [.nilfn] := by kernel_rfl
@[simp] theorem Tryz.zv48 : tyZeroV Tryz.prog 48 = some (.nilfn) := by kernel_rfl
@[simp] theorem Tryz.ag48 : tyAgg Tryz.prog 48 = some false := by kernel_rfl
@[simp] theorem Tryz.if48 : tyIface Tryz.prog 48 = some false := by kernel_rfl
attribute [simp] Tryz.underlying48
@[simp] theorem Tryz.th48 : (Tryz.prog.underlying 48).isSome = true := by kernel_rfl
@[simp] theorem Tryz.st48 : tyStr Tryz.prog 48 = false := by kernel_rfl
@[simp] theorem Tryz.in48 : tyInt Tryz.prog 48 = none := by kernel_rfl
@[simp] theorem Tryz.el48 : tyElem Tryz.prog 48 = none := by kernel_rfl
@[simp] theorem Tryz.ar48 : tyArr Tryz.prog 48 = none := by kernel_rfl
@[simp] theorem Tryz.sz49 : tySize Tryz.prog 49 = some 1 := by kernel_rfl
@[simp] theorem Tryz.by49 : tyBytes Tryz.prog 49 = some 24 := by kernel_rfl
@[simp] theorem Tryz.ze49 : tyZero Tryz.prog 49 = some [.sl 0 [] .nil] := by kernel_rfl
@[simp] theorem Tryz.zv49 : tyZeroV Tryz.prog 49 = some (.sl 0 [] .nil) := by kernel_rfl
@[simp] theorem Tryz.ag49 : tyAgg Tryz.prog 49 = some false := by kernel_rfl
@[simp] theorem Tryz.if49 : tyIface Tryz.prog 49 = some false := by kernel_rfl
@[simp] theorem Tryz.th49 : (Tryz.prog.underlying 49).isSome = true := by kernel_rfl
@[simp] theorem Tryz.st49 : tyStr Tryz.prog 49 = false := by kernel_rfl
@[simp] theorem Tryz.in49 : tyInt Tryz.prog 49 = none := by kernel_rfl
@[simp] theorem Tryz.el49 : tyElem Tryz.prog 49 = some 44 := by kernel_rfl
@[simp] theorem Tryz.ar49 : tyArr Tryz.prog 49 = none := by kernel_rfl
@[simp] theorem Tryz.sz50 : tySize Tryz.prog 50 = some 1 := by kernel_rfl
@[simp] theorem Tryz.by50 : tyBytes Tryz.prog 50 = some 8 := by kernel_rfl
@[simp] theorem Tryz.ze50 : tyZero Tryz.prog 50 = some [.int .i64 0] := by kernel_rfl
@[simp] theorem Tryz.zv50 : tyZeroV Tryz.prog 50 = some (.int .i64 0) := by kernel_rfl
@[simp] theorem Tryz.ag50 : tyAgg Tryz.prog 50 = some false := by kernel_rfl
@[simp] theorem Tryz.if50 : tyIface Tryz.prog 50 = some false := by kernel_rfl
attribute [simp] Tryz.underlying50
@[simp] theorem Tryz.th50 : (Tryz.prog.underlying 50).isSome = true := by kernel_rfl
@[simp] theorem Tryz.st50 : tyStr Tryz.prog 50 = false := by kernel_rfl
@[simp] theorem Tryz.in50 : tyInt Tryz.prog 50 = some .i64 := by kernel_rfl
@[simp] theorem Tryz.el50 : tyElem Tryz.prog 50 = none := by kernel_rfl
@[simp] theorem Tryz.ar50 : tyArr Tryz.prog 50 = none := by kernel_rfl
@[simp] theorem Tryz.sz51 : tySize Tryz.prog 51 = some 2 := by kernel_rfl
@[simp] theorem Tryz.by51 : tyBytes Tryz.prog 51 = some 16 := by kernel_rfl
@[simp] theorem Tryz.ze51 : tyZero Tryz.prog 51 = some [.int .i64 0, .int .i64 0] := by kernel_rfl
@[simp] theorem Tryz.zv51 : tyZeroV Tryz.prog 51 = some (.agg [.int .i64 0, .int .i64 0]) := by kernel_rfl
@[simp] theorem Tryz.ag51 : tyAgg Tryz.prog 51 = some true := by kernel_rfl
@[simp] theorem Tryz.if51 : tyIface Tryz.prog 51 = some false := by kernel_rfl
attribute [simp] Tryz.underlying51
@[simp] theorem Tryz.th51 : (Tryz.prog.underlying 51).isSome = true := by kernel_rfl
@[simp] theorem Tryz.st51 : tyStr Tryz.prog 51 = false := by kernel_rfl
@[simp] theorem Tryz.in51 : tyInt Tryz.prog 51 = none := by kernel_rfl
@[simp] theorem Tryz.el51 : tyElem Tryz.prog 51 = none := by kernel_rfl
@[simp] theorem Tryz.ar51 : tyArr Tryz.prog 51 = none := by kernel_rfl
@[simp] theorem Tryz.fi51_0 : tyField Tryz.prog 51 0 = some (0, 50) := by kernel_rfl
@[simp] theorem Tryz.fi51_1 : tyField Tryz.prog 51 1 = some (1, 3) := by kernel_rfl
@[simp] theorem Tryz.pl51 : tyPlaces Tryz.prog 51 = some (.inl [(0, 1), (1, 1)]) := by kernel_rfl
@[simp] theorem Tryz.gu51 : Tryz.prog.eqGuardType Tryz.prog.depth 51 = false := by kernel_rfl
@[simp] theorem Tryz.si51 : Tryz.prog.stoodInHeld 51 = false := by kernel_rfl
@[simp] theorem Tryz.sz52 : tySize Tryz.prog 52 = some 2 := by kernel_rfl
@[simp] theorem Tryz.by52 : tyBytes Tryz.prog 52 = some 16 := by kernel_rfl
@[simp] theorem Tryz.ze52 : tyZero Tryz.prog 52 = some [.int .i64 0, .int .i64 0] := by kernel_rfl
@[simp] theorem Tryz.zv52 : tyZeroV Tryz.prog 52 = some (.agg [.int .i64 0, .int .i64 0]) := by kernel_rfl
@[simp] theorem Tryz.ag52 : tyAgg Tryz.prog 52 = some true := by kernel_rfl
@[simp] theorem Tryz.if52 : tyIface Tryz.prog 52 = some false := by kernel_rfl
attribute [simp] Tryz.underlying52
@[simp] theorem Tryz.th52 : (Tryz.prog.underlying 52).isSome = true := by kernel_rfl
@[simp] theorem Tryz.st52 : tyStr Tryz.prog 52 = false := by kernel_rfl
@[simp] theorem Tryz.in52 : tyInt Tryz.prog 52 = none := by kernel_rfl
@[simp] theorem Tryz.el52 : tyElem Tryz.prog 52 = none := by kernel_rfl
@[simp] theorem Tryz.ar52 : tyArr Tryz.prog 52 = none := by kernel_rfl
@[simp] theorem Tryz.fi52_0 : tyField Tryz.prog 52 0 = some (0, 50) := by kernel_rfl
@[simp] theorem Tryz.fi52_1 : tyField Tryz.prog 52 1 = some (1, 3) := by kernel_rfl
@[simp] theorem Tryz.pl52 : tyPlaces Tryz.prog 52 = some (.inl [(0, 1), (1, 1)]) := by kernel_rfl
@[simp] theorem Tryz.gu52 : Tryz.prog.eqGuardType Tryz.prog.depth 52 = false := by kernel_rfl
@[simp] theorem Tryz.si52 : Tryz.prog.stoodInHeld 52 = false := by kernel_rfl
@[simp] theorem Tryz.sz54 : tySize Tryz.prog 54 = some 1 := by kernel_rfl
@[simp] theorem Tryz.by54 : tyBytes Tryz.prog 54 = some 8 := by kernel_rfl
@[simp] theorem Tryz.ze54 : tyZero Tryz.prog 54 = some [.nilfn] := by kernel_rfl
@[simp] theorem Tryz.zv54 : tyZeroV Tryz.prog 54 = some (.nilfn) := by kernel_rfl
@[simp] theorem Tryz.ag54 : tyAgg Tryz.prog 54 = some false := by kernel_rfl
@[simp] theorem Tryz.if54 : tyIface Tryz.prog 54 = some false := by kernel_rfl
attribute [simp] Tryz.underlying54
@[simp] theorem Tryz.th54 : (Tryz.prog.underlying 54).isSome = true := by kernel_rfl
@[simp] theorem Tryz.st54 : tyStr Tryz.prog 54 = false := by kernel_rfl
@[simp] theorem Tryz.in54 : tyInt Tryz.prog 54 = none := by kernel_rfl
@[simp] theorem Tryz.el54 : tyElem Tryz.prog 54 = none := by kernel_rfl
@[simp] theorem Tryz.ar54 : tyArr Tryz.prog 54 = none := by kernel_rfl
@[simp] theorem Tryz.sz55 : tySize Tryz.prog 55 = some 1 := by kernel_rfl
@[simp] theorem Tryz.by55 : tyBytes Tryz.prog 55 = some 8 := by kernel_rfl
@[simp] theorem Tryz.ze55 : tyZero Tryz.prog 55 = some [.nilfn] := by kernel_rfl
@[simp] theorem Tryz.zv55 : tyZeroV Tryz.prog 55 = some (.nilfn) := by kernel_rfl
@[simp] theorem Tryz.ag55 : tyAgg Tryz.prog 55 = some false := by kernel_rfl
@[simp] theorem Tryz.if55 : tyIface Tryz.prog 55 = some false := by kernel_rfl
attribute [simp] Tryz.underlying55
@[simp] theorem Tryz.th55 : (Tryz.prog.underlying 55).isSome = true := by kernel_rfl
@[simp] theorem Tryz.st55 : tyStr Tryz.prog 55 = false := by kernel_rfl
@[simp] theorem Tryz.in55 : tyInt Tryz.prog 55 = none := by kernel_rfl
@[simp] theorem Tryz.el55 : tyElem Tryz.prog 55 = none := by kernel_rfl
@[simp] theorem Tryz.ar55 : tyArr Tryz.prog 55 = none := by kernel_rfl
@[simp] theorem Tryz.sz56 : tySize Tryz.prog 56 = some 1 := by kernel_rfl
@[simp] theorem Tryz.by56 : tyBytes Tryz.prog 56 = some 8 := by kernel_rfl
@[simp] theorem Tryz.ze56 : tyZero Tryz.prog 56 = some [.nilfn] := by kernel_rfl
@[simp] theorem Tryz.zv56 : tyZeroV Tryz.prog 56 = some (.nilfn) := by kernel_rfl
@[simp] theorem Tryz.ag56 : tyAgg Tryz.prog 56 = some false := by kernel_rfl
@[simp] theorem Tryz.if56 : tyIface Tryz.prog 56 = some false := by kernel_rfl
attribute [simp] Tryz.underlying56
@[simp] theorem Tryz.th56 : (Tryz.prog.underlying 56).isSome = true := by kernel_rfl
@[simp] theorem Tryz.st56 : tyStr Tryz.prog 56 = false := by kernel_rfl
@[simp] theorem Tryz.in56 : tyInt Tryz.prog 56 = none := by kernel_rfl
@[simp] theorem Tryz.el56 : tyElem Tryz.prog 56 = none := by kernel_rfl
@[simp] theorem Tryz.ar56 : tyArr Tryz.prog 56 = none := by kernel_rfl
@[simp] theorem Tryz.sz57 : tySize Tryz.prog 57 = some 1 := by kernel_rfl
@[simp] theorem Tryz.by57 : tyBytes Tryz.prog 57 = some 8 := by kernel_rfl
@[simp] theorem Tryz.ze57 : tyZero Tryz.prog 57 = some [.nilfn] := by kernel_rfl
@[simp] theorem Tryz.zv57 : tyZeroV Tryz.prog 57 = some (.nilfn) := by kernel_rfl
@[simp] theorem Tryz.ag57 : tyAgg Tryz.prog 57 = some false := by kernel_rfl
@[simp] theorem Tryz.if57 : tyIface Tryz.prog 57 = some false := by kernel_rfl
attribute [simp] Tryz.underlying57
@[simp] theorem Tryz.th57 : (Tryz.prog.underlying 57).isSome = true := by kernel_rfl
@[simp] theorem Tryz.st57 : tyStr Tryz.prog 57 = false := by kernel_rfl
@[simp] theorem Tryz.in57 : tyInt Tryz.prog 57 = none := by kernel_rfl
@[simp] theorem Tryz.el57 : tyElem Tryz.prog 57 = none := by kernel_rfl
@[simp] theorem Tryz.ar57 : tyArr Tryz.prog 57 = none := by kernel_rfl
@[simp] theorem Tryz.sz58 : tySize Tryz.prog 58 = some 1 := by kernel_rfl
@[simp] theorem Tryz.by58 : tyBytes Tryz.prog 58 = some 8 := by kernel_rfl
@[simp] theorem Tryz.ze58 : tyZero Tryz.prog 58 = some [.nilfn] := by kernel_rfl
@[simp] theorem Tryz.zv58 : tyZeroV Tryz.prog 58 = some (.nilfn) := by kernel_rfl
@[simp] theorem Tryz.ag58 : tyAgg Tryz.prog 58 = some false := by kernel_rfl
@[simp] theorem Tryz.if58 : tyIface Tryz.prog 58 = some false := by kernel_rfl
attribute [simp] Tryz.underlying58
@[simp] theorem Tryz.th58 : (Tryz.prog.underlying 58).isSome = true := by kernel_rfl
@[simp] theorem Tryz.st58 : tyStr Tryz.prog 58 = false := by kernel_rfl
@[simp] theorem Tryz.in58 : tyInt Tryz.prog 58 = none := by kernel_rfl
@[simp] theorem Tryz.el58 : tyElem Tryz.prog 58 = none := by kernel_rfl
@[simp] theorem Tryz.ar58 : tyArr Tryz.prog 58 = none := by kernel_rfl
@[simp] theorem Tryz.sz59 : tySize Tryz.prog 59 = some 1 := by kernel_rfl
@[simp] theorem Tryz.by59 : tyBytes Tryz.prog 59 = some 8 := by kernel_rfl
@[simp] theorem Tryz.ze59 : tyZero Tryz.prog 59 = some [.nilfn] := by kernel_rfl
@[simp] theorem Tryz.zv59 : tyZeroV Tryz.prog 59 = some (.nilfn) := by kernel_rfl
@[simp] theorem Tryz.ag59 : tyAgg Tryz.prog 59 = some false := by kernel_rfl
@[simp] theorem Tryz.if59 : tyIface Tryz.prog 59 = some false := by kernel_rfl
attribute [simp] Tryz.underlying59
@[simp] theorem Tryz.th59 : (Tryz.prog.underlying 59).isSome = true := by kernel_rfl
@[simp] theorem Tryz.st59 : tyStr Tryz.prog 59 = false := by kernel_rfl
@[simp] theorem Tryz.in59 : tyInt Tryz.prog 59 = none := by kernel_rfl
@[simp] theorem Tryz.el59 : tyElem Tryz.prog 59 = none := by kernel_rfl
@[simp] theorem Tryz.ar59 : tyArr Tryz.prog 59 = none := by kernel_rfl
@[simp] theorem Tryz.sz61 : tySize Tryz.prog 61 = some 1 := by kernel_rfl
@[simp] theorem Tryz.by61 : tyBytes Tryz.prog 61 = some 8 := by kernel_rfl
@[simp] theorem Tryz.ze61 : tyZero Tryz.prog 61 = some [.nilfn] := by kernel_rfl
@[simp] theorem Tryz.zv61 : tyZeroV Tryz.prog 61 = some (.nilfn) := by kernel_rfl
@[simp] theorem Tryz.ag61 : tyAgg Tryz.prog 61 = some false := by kernel_rfl
@[simp] theorem Tryz.if61 : tyIface Tryz.prog 61 = some false := by kernel_rfl
attribute [simp] Tryz.underlying61
@[simp] theorem Tryz.th61 : (Tryz.prog.underlying 61).isSome = true := by kernel_rfl
@[simp] theorem Tryz.st61 : tyStr Tryz.prog 61 = false := by kernel_rfl
@[simp] theorem Tryz.in61 : tyInt Tryz.prog 61 = none := by kernel_rfl
@[simp] theorem Tryz.el61 : tyElem Tryz.prog 61 = none := by kernel_rfl
@[simp] theorem Tryz.ar61 : tyArr Tryz.prog 61 = none := by kernel_rfl
@[simp] theorem Tryz.sz62 : tySize Tryz.prog 62 = some 1 := by kernel_rfl
@[simp] theorem Tryz.by62 : tyBytes Tryz.prog 62 = some 8 := by kernel_rfl
@[simp] theorem Tryz.ze62 : tyZero Tryz.prog 62 = some [.nilfn] := by kernel_rfl
@[simp] theorem Tryz.zv62 : tyZeroV Tryz.prog 62 = some (.nilfn) := by kernel_rfl
@[simp] theorem Tryz.ag62 : tyAgg Tryz.prog 62 = some false := by kernel_rfl
@[simp] theorem Tryz.if62 : tyIface Tryz.prog 62 = some false := by kernel_rfl
attribute [simp] Tryz.underlying62
@[simp] theorem Tryz.th62 : (Tryz.prog.underlying 62).isSome = true := by kernel_rfl
@[simp] theorem Tryz.st62 : tyStr Tryz.prog 62 = false := by kernel_rfl
@[simp] theorem Tryz.in62 : tyInt Tryz.prog 62 = none := by kernel_rfl
@[simp] theorem Tryz.el62 : tyElem Tryz.prog 62 = none := by kernel_rfl
@[simp] theorem Tryz.ar62 : tyArr Tryz.prog 62 = none := by kernel_rfl
@[simp] theorem Tryz.sz63 : tySize Tryz.prog 63 = some 8 := by kernel_rfl
@[simp] theorem Tryz.by63 : tyBytes Tryz.prog 63 = some 64 := by kernel_rfl
@[simp] theorem Tryz.ze63 : tyZero Tryz.prog 63 = some [.int .i64 0, .int .i64 0, .int .i64 0, .int .i64 0, .int .i64 0, .int .i64 0, .int .i64 0, .int .i64 0] := by kernel_rfl
@[simp] theorem Tryz.zv63 : tyZeroV Tryz.prog 63 = some (.agg [.int .i64 0, .int .i64 0, .int .i64 0, .int .i64 0, .int .i64 0, .int .i64 0, .int .i64 0, .int .i64 0]) := by kernel_rfl
@[simp] theorem Tryz.ag63 : tyAgg Tryz.prog 63 = some true := by kernel_rfl
@[simp] theorem Tryz.if63 : tyIface Tryz.prog 63 = some false := by kernel_rfl
attribute [simp] Tryz.underlying63
@[simp] theorem Tryz.th63 : (Tryz.prog.underlying 63).isSome = true := by kernel_rfl
@[simp] theorem Tryz.st63 : tyStr Tryz.prog 63 = false := by kernel_rfl
@[simp] theorem Tryz.in63 : tyInt Tryz.prog 63 = none := by kernel_rfl
@[simp] theorem Tryz.el63 : tyElem Tryz.prog 63 = none := by kernel_rfl
@[simp] theorem Tryz.ar63 : tyArr Tryz.prog 63 = some (4, 23) := by kernel_rfl
@[simp] theorem Tryz.pl63 : tyPlaces Tryz.prog 63 = some (.inr 2) := by kernel_rfl
@[simp] theorem Tryz.gu63 : Tryz.prog.eqGuardType Tryz.prog.depth 63 = false := by kernel_rfl
@[simp] theorem Tryz.sz64 : tySize Tryz.prog 64 = some 1 := by kernel_rfl
@[simp] theorem Tryz.by64 : tyBytes Tryz.prog 64 = some 8 := by kernel_rfl
@[simp] theorem Tryz.ze64 : tyZero Tryz.prog 64 = some [.nilfn] := by kernel_rfl
@[simp] theorem Tryz.zv64 : tyZeroV Tryz.prog 64 = some (.nilfn) := by kernel_rfl
@[simp] theorem Tryz.ag64 : tyAgg Tryz.prog 64 = some false := by kernel_rfl
@[simp] theorem Tryz.if64 : tyIface Tryz.prog 64 = some false := by kernel_rfl
attribute [simp] Tryz.underlying64
@[simp] theorem Tryz.th64 : (Tryz.prog.underlying 64).isSome = true := by kernel_rfl
@[simp] theorem Tryz.st64 : tyStr Tryz.prog 64 = false := by kernel_rfl
@[simp] theorem Tryz.in64 : tyInt Tryz.prog 64 = none := by kernel_rfl
@[simp] theorem Tryz.el64 : tyElem Tryz.prog 64 = none := by kernel_rfl
@[simp] theorem Tryz.ar64 : tyArr Tryz.prog 64 = none := by kernel_rfl
@[simp] theorem Tryz.sz65 : tySize Tryz.prog 65 = some 3 := by kernel_rfl
@[simp] theorem Tryz.by65 : tyBytes Tryz.prog 65 = some 24 := by kernel_rfl
@[simp] theorem Tryz.ze65 : tyZero Tryz.prog 65 = some [.int .i64 0, .int .i64 0, .int .i64 0] := by kernel_rfl
@[simp] theorem Tryz.zv65 : tyZeroV Tryz.prog 65 = some (.agg [.int .i64 0, .int .i64 0, .int .i64 0]) := by kernel_rfl
@[simp] theorem Tryz.ag65 : tyAgg Tryz.prog 65 = some true := by kernel_rfl
@[simp] theorem Tryz.if65 : tyIface Tryz.prog 65 = some false := by kernel_rfl
attribute [simp] Tryz.underlying65
@[simp] theorem Tryz.th65 : (Tryz.prog.underlying 65).isSome = true := by kernel_rfl
@[simp] theorem Tryz.st65 : tyStr Tryz.prog 65 = false := by kernel_rfl
@[simp] theorem Tryz.in65 : tyInt Tryz.prog 65 = none := by kernel_rfl
@[simp] theorem Tryz.el65 : tyElem Tryz.prog 65 = none := by kernel_rfl
@[simp] theorem Tryz.ar65 : tyArr Tryz.prog 65 = none := by kernel_rfl
@[simp] theorem Tryz.fi65_0 : tyField Tryz.prog 65 0 = some (0, 3) := by kernel_rfl
@[simp] theorem Tryz.fi65_1 : tyField Tryz.prog 65 1 = some (1, 3) := by kernel_rfl
@[simp] theorem Tryz.fi65_2 : tyField Tryz.prog 65 2 = some (2, 3) := by kernel_rfl
@[simp] theorem Tryz.pl65 : tyPlaces Tryz.prog 65 = some (.inl [(0, 1), (1, 1), (2, 1)]) := by kernel_rfl
@[simp] theorem Tryz.gu65 : Tryz.prog.eqGuardType Tryz.prog.depth 65 = false := by kernel_rfl
@[simp] theorem Tryz.si65 : Tryz.prog.stoodInHeld 65 = false := by kernel_rfl
@[simp] theorem Tryz.sz66 : tySize Tryz.prog 66 = some 3 := by kernel_rfl
@[simp] theorem Tryz.by66 : tyBytes Tryz.prog 66 = some 24 := by kernel_rfl
@[simp] theorem Tryz.ze66 : tyZero Tryz.prog 66 = some [.int .i64 0, .int .i64 0, .int .i64 0] := by kernel_rfl
@[simp] theorem Tryz.zv66 : tyZeroV Tryz.prog 66 = some (.agg [.int .i64 0, .int .i64 0, .int .i64 0]) := by kernel_rfl
@[simp] theorem Tryz.ag66 : tyAgg Tryz.prog 66 = some true := by kernel_rfl
@[simp] theorem Tryz.if66 : tyIface Tryz.prog 66 = some false := by kernel_rfl
attribute [simp] Tryz.underlying66
@[simp] theorem Tryz.th66 : (Tryz.prog.underlying 66).isSome = true := by kernel_rfl
@[simp] theorem Tryz.st66 : tyStr Tryz.prog 66 = false := by kernel_rfl
@[simp] theorem Tryz.in66 : tyInt Tryz.prog 66 = none := by kernel_rfl
@[simp] theorem Tryz.el66 : tyElem Tryz.prog 66 = none := by kernel_rfl
@[simp] theorem Tryz.ar66 : tyArr Tryz.prog 66 = none := by kernel_rfl
@[simp] theorem Tryz.fi66_0 : tyField Tryz.prog 66 0 = some (0, 3) := by kernel_rfl
@[simp] theorem Tryz.fi66_1 : tyField Tryz.prog 66 1 = some (1, 3) := by kernel_rfl
@[simp] theorem Tryz.fi66_2 : tyField Tryz.prog 66 2 = some (2, 3) := by kernel_rfl
@[simp] theorem Tryz.pl66 : tyPlaces Tryz.prog 66 = some (.inl [(0, 1), (1, 1), (2, 1)]) := by kernel_rfl
@[simp] theorem Tryz.gu66 : Tryz.prog.eqGuardType Tryz.prog.depth 66 = false := by kernel_rfl
@[simp] theorem Tryz.si66 : Tryz.prog.stoodInHeld 66 = false := by kernel_rfl
@[simp] theorem Tryz.sz67 : tySize Tryz.prog 67 = some 6 := by kernel_rfl
@[simp] theorem Tryz.by67 : tyBytes Tryz.prog 67 = some 56 := by kernel_rfl
@[simp] theorem Tryz.ze67 : tyZero Tryz.prog 67 = some [.str ⟨#[]⟩, .int .i64 0, .int .i64 0, .int .i64 0, .int .i64 0, .int .i64 0] := by kernel_rfl
@[simp] theorem Tryz.zv67 : tyZeroV Tryz.prog 67 = some (.agg [.str ⟨#[]⟩, .int .i64 0, .int .i64 0, .int .i64 0, .int .i64 0, .int .i64 0]) := by kernel_rfl
@[simp] theorem Tryz.ag67 : tyAgg Tryz.prog 67 = some true := by kernel_rfl
@[simp] theorem Tryz.if67 : tyIface Tryz.prog 67 = some false := by kernel_rfl
attribute [simp] Tryz.underlying67
@[simp] theorem Tryz.th67 : (Tryz.prog.underlying 67).isSome = true := by kernel_rfl
@[simp] theorem Tryz.st67 : tyStr Tryz.prog 67 = false := by kernel_rfl
@[simp] theorem Tryz.in67 : tyInt Tryz.prog 67 = none := by kernel_rfl
@[simp] theorem Tryz.el67 : tyElem Tryz.prog 67 = none := by kernel_rfl
@[simp] theorem Tryz.ar67 : tyArr Tryz.prog 67 = none := by kernel_rfl
@[simp] theorem Tryz.fi67_0 : tyField Tryz.prog 67 0 = some (0, 9) := by kernel_rfl
@[simp] theorem Tryz.fi67_1 : tyField Tryz.prog 67 1 = some (1, 23) := by kernel_rfl
@[simp] theorem Tryz.fi67_2 : tyField Tryz.prog 67 2 = some (3, 66) := by kernel_rfl
@[simp] theorem Tryz.pl67 : tyPlaces Tryz.prog 67 = some (.inl [(0, 1), (1, 2), (3, 3)]) := by kernel_rfl
@[simp] theorem Tryz.gu67 : Tryz.prog.eqGuardType Tryz.prog.depth 67 = false := by kernel_rfl
@[simp] theorem Tryz.si67 : Tryz.prog.stoodInHeld 67 = false := by kernel_rfl
@[simp] theorem Tryz.sz68 : tySize Tryz.prog 68 = some 6 := by kernel_rfl
@[simp] theorem Tryz.by68 : tyBytes Tryz.prog 68 = some 56 := by kernel_rfl
@[simp] theorem Tryz.ze68 : tyZero Tryz.prog 68 = some [.str ⟨#[]⟩, .int .i64 0, .int .i64 0, .int .i64 0, .int .i64 0, .int .i64 0] := by kernel_rfl
@[simp] theorem Tryz.zv68 : tyZeroV Tryz.prog 68 = some (.agg [.str ⟨#[]⟩, .int .i64 0, .int .i64 0, .int .i64 0, .int .i64 0, .int .i64 0]) := by kernel_rfl
@[simp] theorem Tryz.ag68 : tyAgg Tryz.prog 68 = some true := by kernel_rfl
@[simp] theorem Tryz.if68 : tyIface Tryz.prog 68 = some false := by kernel_rfl
attribute [simp] Tryz.underlying68
@[simp] theorem Tryz.th68 : (Tryz.prog.underlying 68).isSome = true := by kernel_rfl
@[simp] theorem Tryz.st68 : tyStr Tryz.prog 68 = false := by kernel_rfl
@[simp] theorem Tryz.in68 : tyInt Tryz.prog 68 = none := by kernel_rfl
@[simp] theorem Tryz.el68 : tyElem Tryz.prog 68 = none := by kernel_rfl
@[simp] theorem Tryz.ar68 : tyArr Tryz.prog 68 = none := by kernel_rfl
@[simp] theorem Tryz.fi68_0 : tyField Tryz.prog 68 0 = some (0, 9) := by kernel_rfl
@[simp] theorem Tryz.fi68_1 : tyField Tryz.prog 68 1 = some (1, 23) := by kernel_rfl
@[simp] theorem Tryz.fi68_2 : tyField Tryz.prog 68 2 = some (3, 66) := by kernel_rfl
@[simp] theorem Tryz.pl68 : tyPlaces Tryz.prog 68 = some (.inl [(0, 1), (1, 2), (3, 3)]) := by kernel_rfl
@[simp] theorem Tryz.gu68 : Tryz.prog.eqGuardType Tryz.prog.depth 68 = false := by kernel_rfl
@[simp] theorem Tryz.si68 : Tryz.prog.stoodInHeld 68 = false := by kernel_rfl
@[simp] theorem Tryz.sz69 : tySize Tryz.prog 69 = some 1 := by kernel_rfl
@[simp] theorem Tryz.by69 : tyBytes Tryz.prog 69 = some 8 := by kernel_rfl
@[simp] theorem Tryz.ze69 : tyZero Tryz.prog 69 = some [.nilfn] := by kernel_rfl
@[simp] theorem Tryz.zv69 : tyZeroV Tryz.prog 69 = some (.nilfn) := by kernel_rfl
@[simp] theorem Tryz.ag69 : tyAgg Tryz.prog 69 = some false := by kernel_rfl
@[simp] theorem Tryz.if69 : tyIface Tryz.prog 69 = some false := by kernel_rfl
attribute [simp] Tryz.underlying69
@[simp] theorem Tryz.th69 : (Tryz.prog.underlying 69).isSome = true := by kernel_rfl
@[simp] theorem Tryz.st69 : tyStr Tryz.prog 69 = false := by kernel_rfl
@[simp] theorem Tryz.in69 : tyInt Tryz.prog 69 = none := by kernel_rfl
@[simp] theorem Tryz.el69 : tyElem Tryz.prog 69 = none := by kernel_rfl
@[simp] theorem Tryz.ar69 : tyArr Tryz.prog 69 = none := by kernel_rfl
@[simp] theorem Tryz.sz70 : tySize Tryz.prog 70 = some 1 := by kernel_rfl
@[simp] theorem Tryz.by70 : tyBytes Tryz.prog 70 = some 8 := by kernel_rfl
@[simp] theorem Tryz.ze70 : tyZero Tryz.prog 70 = some [.nilfn] := by kernel_rfl
@[simp] theorem Tryz.zv70 : tyZeroV Tryz.prog 70 = some (.nilfn) := by kernel_rfl
@[simp] theorem Tryz.ag70 : tyAgg Tryz.prog 70 = some false := by kernel_rfl
@[simp] theorem Tryz.if70 : tyIface Tryz.prog 70 = some false := by kernel_rfl
attribute [simp] Tryz.underlying70
@[simp] theorem Tryz.th70 : (Tryz.prog.underlying 70).isSome = true := by kernel_rfl
@[simp] theorem Tryz.st70 : tyStr Tryz.prog 70 = false := by kernel_rfl
@[simp] theorem Tryz.in70 : tyInt Tryz.prog 70 = none := by kernel_rfl
@[simp] theorem Tryz.el70 : tyElem Tryz.prog 70 = none := by kernel_rfl
@[simp] theorem Tryz.ar70 : tyArr Tryz.prog 70 = none := by kernel_rfl
@[simp] theorem Tryz.sz71 : tySize Tryz.prog 71 = some 3 := by kernel_rfl
@[simp] theorem Tryz.by71 : tyBytes Tryz.prog 71 = some 3 := by kernel_rfl
@[simp] theorem Tryz.ze71 : tyZero Tryz.prog 71 = some [.int .u8 0, .int .u8 0, .int .u8 0] := by kernel_rfl
@[simp] theorem Tryz.zv71 : tyZeroV Tryz.prog 71 = some (.agg [.int .u8 0, .int .u8 0, .int .u8 0]) := by kernel_rfl
@[simp] theorem Tryz.ag71 : tyAgg Tryz.prog 71 = some true := by kernel_rfl
@[simp] theorem Tryz.if71 : tyIface Tryz.prog 71 = some false := by kernel_rfl
attribute [simp] Tryz.underlying71
@[simp] theorem Tryz.th71 : (Tryz.prog.underlying 71).isSome = true := by kernel_rfl
@[simp] theorem Tryz.st71 : tyStr Tryz.prog 71 = false := by kernel_rfl
@[simp] theorem Tryz.in71 : tyInt Tryz.prog 71 = none := by kernel_rfl
@[simp] theorem Tryz.el71 : tyElem Tryz.prog 71 = none := by kernel_rfl
@[simp] theorem Tryz.ar71 : tyArr Tryz.prog 71 = some (3, 5) := by kernel_rfl
@[simp] theorem Tryz.pl71 : tyPlaces Tryz.prog 71 = some (.inr 1) := by kernel_rfl
@[simp] theorem Tryz.gu71 : Tryz.prog.eqGuardType Tryz.prog.depth 71 = false := by kernel_rfl
@[simp] theorem Tryz.sz72 : tySize Tryz.prog 72 = some 6 := by kernel_rfl
@[simp] theorem Tryz.by72 : tyBytes Tryz.prog 72 = some 6 := by kernel_rfl
@[simp] theorem Tryz.ze72 : tyZero Tryz.prog 72 = some [.int .u8 0, .int .u8 0, .int .u8 0, .int .u8 0, .int .u8 0, .int .u8 0] := by kernel_rfl
@[simp] theorem Tryz.zv72 : tyZeroV Tryz.prog 72 = some (.agg [.int .u8 0, .int .u8 0, .int .u8 0, .int .u8 0, .int .u8 0, .int .u8 0]) := by kernel_rfl
@[simp] theorem Tryz.ag72 : tyAgg Tryz.prog 72 = some true := by kernel_rfl
@[simp] theorem Tryz.if72 : tyIface Tryz.prog 72 = some false := by kernel_rfl
attribute [simp] Tryz.underlying72
@[simp] theorem Tryz.th72 : (Tryz.prog.underlying 72).isSome = true := by kernel_rfl
@[simp] theorem Tryz.st72 : tyStr Tryz.prog 72 = false := by kernel_rfl
@[simp] theorem Tryz.in72 : tyInt Tryz.prog 72 = none := by kernel_rfl
@[simp] theorem Tryz.el72 : tyElem Tryz.prog 72 = none := by kernel_rfl
@[simp] theorem Tryz.ar72 : tyArr Tryz.prog 72 = some (2, 71) := by kernel_rfl
@[simp] theorem Tryz.pl72 : tyPlaces Tryz.prog 72 = some (.inr 3) := by kernel_rfl
@[simp] theorem Tryz.gu72 : Tryz.prog.eqGuardType Tryz.prog.depth 72 = false := by kernel_rfl
@[simp] theorem Tryz.sz73 : tySize Tryz.prog 73 = some 1 := by kernel_rfl
@[simp] theorem Tryz.by73 : tyBytes Tryz.prog 73 = some 2 := by kernel_rfl
@[simp] theorem Tryz.ze73 : tyZero Tryz.prog 73 = some [.int .u16 0] := by kernel_rfl
@[simp] theorem Tryz.zv73 : tyZeroV Tryz.prog 73 = some (.int .u16 0) := by kernel_rfl
@[simp] theorem Tryz.ag73 : tyAgg Tryz.prog 73 = some false := by kernel_rfl
@[simp] theorem Tryz.if73 : tyIface Tryz.prog 73 = some false := by kernel_rfl
attribute [simp] Tryz.underlying73
@[simp] theorem Tryz.th73 : (Tryz.prog.underlying 73).isSome = true := by kernel_rfl
@[simp] theorem Tryz.st73 : tyStr Tryz.prog 73 = false := by kernel_rfl
@[simp] theorem Tryz.in73 : tyInt Tryz.prog 73 = some .u16 := by kernel_rfl
@[simp] theorem Tryz.el73 : tyElem Tryz.prog 73 = none := by kernel_rfl
@[simp] theorem Tryz.ar73 : tyArr Tryz.prog 73 = none := by kernel_rfl
@[simp] theorem Tryz.sz74 : tySize Tryz.prog 74 = some 11 := by kernel_rfl
@[simp] theorem Tryz.by74 : tyBytes Tryz.prog 74 = some 12 := by kernel_rfl
@[simp] theorem Tryz.ze74 : tyZero Tryz.prog 74 = some [.int .u8 0, .int .u8 0, .int .u8 0, .int .u8 0, .int .u8 0, .int .u8 0, .int .u8 0, .int .u8 0, .int .u8 0, .int .u8 0, .int .u16 0] := by kernel_rfl
@[simp] theorem Tryz.zv74 : tyZeroV Tryz.prog 74 = some (.agg [.int .u8 0, .int .u8 0, .int .u8 0, .int .u8 0, .int .u8 0, .int .u8 0, .int .u8 0, .int .u8 0, .int .u8 0, .int .u8 0, .int .u16 0]) := by kernel_rfl
@[simp] theorem Tryz.ag74 : tyAgg Tryz.prog 74 = some true := by kernel_rfl
@[simp] theorem Tryz.if74 : tyIface Tryz.prog 74 = some false := by kernel_rfl
attribute [simp] Tryz.underlying74
@[simp] theorem Tryz.th74 : (Tryz.prog.underlying 74).isSome = true := by kernel_rfl
@[simp] theorem Tryz.st74 : tyStr Tryz.prog 74 = false := by kernel_rfl
@[simp] theorem Tryz.in74 : tyInt Tryz.prog 74 = none := by kernel_rfl
@[simp] theorem Tryz.el74 : tyElem Tryz.prog 74 = none := by kernel_rfl
@[simp] theorem Tryz.ar74 : tyArr Tryz.prog 74 = none := by kernel_rfl
@[simp] theorem Tryz.fi74_0 : tyField Tryz.prog 74 0 = some (0, 5) := by kernel_rfl
@[simp] theorem Tryz.fi74_1 : tyField Tryz.prog 74 1 = some (1, 5) := by kernel_rfl
@[simp] theorem Tryz.fi74_2 : tyField Tryz.prog 74 2 = some (2, 5) := by kernel_rfl
@[simp] theorem Tryz.fi74_3 : tyField Tryz.prog 74 3 = some (3, 5) := by kernel_rfl
@[simp] theorem Tryz.fi74_4 : tyField Tryz.prog 74 4 = some (4, 72) := by kernel_rfl
@[simp] theorem Tryz.fi74_5 : tyField Tryz.prog 74 5 = some (10, 73) := by kernel_rfl
@[simp] theorem Tryz.pl74 : tyPlaces Tryz.prog 74 = some (.inl [(0, 1), (1, 1), (2, 1), (3, 1), (4, 6), (10, 1)]) := by kernel_rfl
@[simp] theorem Tryz.gu74 : Tryz.prog.eqGuardType Tryz.prog.depth 74 = false := by kernel_rfl
@[simp] theorem Tryz.si74 : Tryz.prog.stoodInHeld 74 = false := by kernel_rfl
@[simp] theorem Tryz.sz75 : tySize Tryz.prog 75 = some 11 := by kernel_rfl
@[simp] theorem Tryz.by75 : tyBytes Tryz.prog 75 = some 12 := by kernel_rfl
@[simp] theorem Tryz.ze75 : tyZero Tryz.prog 75 = some [.int .u8 0, .int .u8 0, .int .u8 0, .int .u8 0, .int .u8 0, .int .u8 0, .int .u8 0, .int .u8 0, .int .u8 0, .int .u8 0, .int .u16 0] := by kernel_rfl
@[simp] theorem Tryz.zv75 : tyZeroV Tryz.prog 75 = some (.agg [.int .u8 0, .int .u8 0, .int .u8 0, .int .u8 0, .int .u8 0, .int .u8 0, .int .u8 0, .int .u8 0, .int .u8 0, .int .u8 0, .int .u16 0]) := by kernel_rfl
@[simp] theorem Tryz.ag75 : tyAgg Tryz.prog 75 = some true := by kernel_rfl
@[simp] theorem Tryz.if75 : tyIface Tryz.prog 75 = some false := by kernel_rfl
attribute [simp] Tryz.underlying75
@[simp] theorem Tryz.th75 : (Tryz.prog.underlying 75).isSome = true := by kernel_rfl
@[simp] theorem Tryz.st75 : tyStr Tryz.prog 75 = false := by kernel_rfl
@[simp] theorem Tryz.in75 : tyInt Tryz.prog 75 = none := by kernel_rfl
@[simp] theorem Tryz.el75 : tyElem Tryz.prog 75 = none := by kernel_rfl
@[simp] theorem Tryz.ar75 : tyArr Tryz.prog 75 = none := by kernel_rfl
@[simp] theorem Tryz.fi75_0 : tyField Tryz.prog 75 0 = some (0, 5) := by kernel_rfl
@[simp] theorem Tryz.fi75_1 : tyField Tryz.prog 75 1 = some (1, 5) := by kernel_rfl
@[simp] theorem Tryz.fi75_2 : tyField Tryz.prog 75 2 = some (2, 5) := by kernel_rfl
@[simp] theorem Tryz.fi75_3 : tyField Tryz.prog 75 3 = some (3, 5) := by kernel_rfl
@[simp] theorem Tryz.fi75_4 : tyField Tryz.prog 75 4 = some (4, 72) := by kernel_rfl
@[simp] theorem Tryz.fi75_5 : tyField Tryz.prog 75 5 = some (10, 73) := by kernel_rfl
@[simp] theorem Tryz.pl75 : tyPlaces Tryz.prog 75 = some (.inl [(0, 1), (1, 1), (2, 1), (3, 1), (4, 6), (10, 1)]) := by kernel_rfl
@[simp] theorem Tryz.gu75 : Tryz.prog.eqGuardType Tryz.prog.depth 75 = false := by kernel_rfl
@[simp] theorem Tryz.si75 : Tryz.prog.stoodInHeld 75 = false := by kernel_rfl
@[simp] theorem Tryz.sz76 : tySize Tryz.prog 76 = some 1 := by kernel_rfl
@[simp] theorem Tryz.by76 : tyBytes Tryz.prog 76 = some 24 := by kernel_rfl
@[simp] theorem Tryz.ze76 : tyZero Tryz.prog 76 = some [.sl 0 [] .nil] := by kernel_rfl
@[simp] theorem Tryz.zv76 : tyZeroV Tryz.prog 76 = some (.sl 0 [] .nil) := by kernel_rfl
@[simp] theorem Tryz.ag76 : tyAgg Tryz.prog 76 = some false := by kernel_rfl
@[simp] theorem Tryz.if76 : tyIface Tryz.prog 76 = some false := by kernel_rfl
@[simp] theorem Tryz.th76 : (Tryz.prog.underlying 76).isSome = true := by kernel_rfl
@[simp] theorem Tryz.st76 : tyStr Tryz.prog 76 = false := by kernel_rfl
@[simp] theorem Tryz.in76 : tyInt Tryz.prog 76 = none := by kernel_rfl
@[simp] theorem Tryz.el76 : tyElem Tryz.prog 76 = some 23 := by kernel_rfl
@[simp] theorem Tryz.ar76 : tyArr Tryz.prog 76 = none := by kernel_rfl
@[simp] theorem Tryz.sz77 : tySize Tryz.prog 77 = some 1 := by kernel_rfl
@[simp] theorem Tryz.by77 : tyBytes Tryz.prog 77 = some 24 := by kernel_rfl
@[simp] theorem Tryz.ze77 : tyZero Tryz.prog 77 = some [.sl 0 [] .nil] := by kernel_rfl
@[simp] theorem Tryz.zv77 : tyZeroV Tryz.prog 77 = some (.sl 0 [] .nil) := by kernel_rfl
@[simp] theorem Tryz.ag77 : tyAgg Tryz.prog 77 = some false := by kernel_rfl
@[simp] theorem Tryz.if77 : tyIface Tryz.prog 77 = some false := by kernel_rfl
@[simp] theorem Tryz.th77 : (Tryz.prog.underlying 77).isSome = true := by kernel_rfl
@[simp] theorem Tryz.st77 : tyStr Tryz.prog 77 = false := by kernel_rfl
@[simp] theorem Tryz.in77 : tyInt Tryz.prog 77 = none := by kernel_rfl
@[simp] theorem Tryz.el77 : tyElem Tryz.prog 77 = some 23 := by kernel_rfl
@[simp] theorem Tryz.ar77 : tyArr Tryz.prog 77 = none := by kernel_rfl
@[simp] theorem Tryz.sz78 : tySize Tryz.prog 78 = some 3 := by kernel_rfl
@[simp] theorem Tryz.by78 : tyBytes Tryz.prog 78 = some 48 := by kernel_rfl
@[simp] theorem Tryz.ze78 : tyZero Tryz.prog 78 = some [.str ⟨#[]⟩, .sl 0 [] .nil, .int .i64 0] := by kernel_rfl
@[simp] theorem Tryz.zv78 : tyZeroV Tryz.prog 78 = some (.agg [.str ⟨#[]⟩, .sl 0 [] .nil, .int .i64 0]) := by kernel_rfl
@[simp] theorem Tryz.ag78 : tyAgg Tryz.prog 78 = some true := by kernel_rfl
@[simp] theorem Tryz.if78 : tyIface Tryz.prog 78 = some false := by kernel_rfl
attribute [simp] Tryz.underlying78
@[simp] theorem Tryz.th78 : (Tryz.prog.underlying 78).isSome = true := by kernel_rfl
@[simp] theorem Tryz.st78 : tyStr Tryz.prog 78 = false := by kernel_rfl
@[simp] theorem Tryz.in78 : tyInt Tryz.prog 78 = none := by kernel_rfl
@[simp] theorem Tryz.el78 : tyElem Tryz.prog 78 = none := by kernel_rfl
@[simp] theorem Tryz.ar78 : tyArr Tryz.prog 78 = none := by kernel_rfl
@[simp] theorem Tryz.fi78_0 : tyField Tryz.prog 78 0 = some (0, 9) := by kernel_rfl
@[simp] theorem Tryz.fi78_1 : tyField Tryz.prog 78 1 = some (1, 77) := by kernel_rfl
@[simp] theorem Tryz.fi78_2 : tyField Tryz.prog 78 2 = some (2, 3) := by kernel_rfl
@[simp] theorem Tryz.pl78 : tyPlaces Tryz.prog 78 = some (.inl [(0, 1), (1, 1), (2, 1)]) := by kernel_rfl
@[simp] theorem Tryz.gu78 : Tryz.prog.eqGuardType Tryz.prog.depth 78 = false := by kernel_rfl
@[simp] theorem Tryz.si78 : Tryz.prog.stoodInHeld 78 = false := by kernel_rfl
@[simp] theorem Tryz.sz79 : tySize Tryz.prog 79 = some 3 := by kernel_rfl
@[simp] theorem Tryz.by79 : tyBytes Tryz.prog 79 = some 48 := by kernel_rfl
@[simp] theorem Tryz.ze79 : tyZero Tryz.prog 79 = some [.str ⟨#[]⟩, .sl 0 [] .nil, .int .i64 0] := by kernel_rfl
@[simp] theorem Tryz.zv79 : tyZeroV Tryz.prog 79 = some (.agg [.str ⟨#[]⟩, .sl 0 [] .nil, .int .i64 0]) := by kernel_rfl
@[simp] theorem Tryz.ag79 : tyAgg Tryz.prog 79 = some true := by kernel_rfl
@[simp] theorem Tryz.if79 : tyIface Tryz.prog 79 = some false := by kernel_rfl
attribute [simp] Tryz.underlying79
@[simp] theorem Tryz.th79 : (Tryz.prog.underlying 79).isSome = true := by kernel_rfl
@[simp] theorem Tryz.st79 : tyStr Tryz.prog 79 = false := by kernel_rfl
@[simp] theorem Tryz.in79 : tyInt Tryz.prog 79 = none := by kernel_rfl
@[simp] theorem Tryz.el79 : tyElem Tryz.prog 79 = none := by kernel_rfl
@[simp] theorem Tryz.ar79 : tyArr Tryz.prog 79 = none := by kernel_rfl
@[simp] theorem Tryz.fi79_0 : tyField Tryz.prog 79 0 = some (0, 9) := by kernel_rfl
@[simp] theorem Tryz.fi79_1 : tyField Tryz.prog 79 1 = some (1, 77) := by kernel_rfl
@[simp] theorem Tryz.fi79_2 : tyField Tryz.prog 79 2 = some (2, 3) := by kernel_rfl
@[simp] theorem Tryz.pl79 : tyPlaces Tryz.prog 79 = some (.inl [(0, 1), (1, 1), (2, 1)]) := by kernel_rfl
@[simp] theorem Tryz.gu79 : Tryz.prog.eqGuardType Tryz.prog.depth 79 = false := by kernel_rfl
@[simp] theorem Tryz.si79 : Tryz.prog.stoodInHeld 79 = false := by kernel_rfl
@[simp] theorem Tryz.sz80 : tySize Tryz.prog 80 = some 13 := by kernel_rfl
@[simp] theorem Tryz.by80 : tyBytes Tryz.prog 80 = some 136 := by kernel_rfl
@[simp] theorem Tryz.ze80 : tyZero Tryz.prog 80 = some [.int .i64 0, .int .i64 0, .str ⟨#[]⟩, .str ⟨#[]⟩, .int .i64 0, .int .i64 0, .int .i64 0, .int .i64 0, .int .i64 0, .int .i64 0, .int .i64 0, .sl 0 [] .nil, .int .i64 0] := by kernel_rfl
@[simp] theorem Tryz.zv80 : tyZeroV Tryz.prog 80 = some (.agg [.int .i64 0, .int .i64 0, .str ⟨#[]⟩, .str ⟨#[]⟩, .int .i64 0, .int .i64 0, .int .i64 0, .int .i64 0, .int .i64 0, .int .i64 0, .int .i64 0, .sl 0 [] .nil, .int .i64 0]) := by kernel_rfl
@[simp] theorem Tryz.ag80 : tyAgg Tryz.prog 80 = some true := by kernel_rfl
@[simp] theorem Tryz.if80 : tyIface Tryz.prog 80 = some false := by kernel_rfl
attribute [simp] Tryz.underlying80
@[simp] theorem Tryz.th80 : (Tryz.prog.underlying 80).isSome = true := by kernel_rfl
@[simp] theorem Tryz.st80 : tyStr Tryz.prog 80 = false := by kernel_rfl
@[simp] theorem Tryz.in80 : tyInt Tryz.prog 80 = none := by kernel_rfl
@[simp] theorem Tryz.el80 : tyElem Tryz.prog 80 = none := by kernel_rfl
@[simp] theorem Tryz.ar80 : tyArr Tryz.prog 80 = none := by kernel_rfl
@[simp] theorem Tryz.fi80_0 : tyField Tryz.prog 80 0 = some (0, 3) := by kernel_rfl
@[simp] theorem Tryz.fi80_1 : tyField Tryz.prog 80 1 = some (1, 3) := by kernel_rfl
@[simp] theorem Tryz.fi80_2 : tyField Tryz.prog 80 2 = some (2, 9) := by kernel_rfl
@[simp] theorem Tryz.fi80_3 : tyField Tryz.prog 80 3 = some (3, 9) := by kernel_rfl
@[simp] theorem Tryz.fi80_4 : tyField Tryz.prog 80 4 = some (4, 3) := by kernel_rfl
@[simp] theorem Tryz.fi80_5 : tyField Tryz.prog 80 5 = some (5, 29) := by kernel_rfl
@[simp] theorem Tryz.fi80_6 : tyField Tryz.prog 80 6 = some (11, 47) := by kernel_rfl
@[simp] theorem Tryz.fi80_7 : tyField Tryz.prog 80 7 = some (12, 3) := by kernel_rfl
@[simp] theorem Tryz.pl80 : tyPlaces Tryz.prog 80 = some (.inl [(0, 1), (1, 1), (2, 1), (3, 1), (4, 1), (5, 6), (11, 1), (12, 1)]) := by kernel_rfl
@[simp] theorem Tryz.gu80 : Tryz.prog.eqGuardType Tryz.prog.depth 80 = false := by kernel_rfl
@[simp] theorem Tryz.si80 : Tryz.prog.stoodInHeld 80 = false := by kernel_rfl
@[simp] theorem Tryz.sz81 : tySize Tryz.prog 81 = some 13 := by kernel_rfl
@[simp] theorem Tryz.by81 : tyBytes Tryz.prog 81 = some 136 := by kernel_rfl
@[simp] theorem Tryz.ze81 : tyZero Tryz.prog 81 = some [.int .i64 0, .int .i64 0, .str ⟨#[]⟩, .str ⟨#[]⟩, .int .i64 0, .int .i64 0, .int .i64 0, .int .i64 0, .int .i64 0, .int .i64 0, .int .i64 0, .sl 0 [] .nil, .int .i64 0] := by kernel_rfl
@[simp] theorem Tryz.zv81 : tyZeroV Tryz.prog 81 = some (.agg [.int .i64 0, .int .i64 0, .str ⟨#[]⟩, .str ⟨#[]⟩, .int .i64 0, .int .i64 0, .int .i64 0, .int .i64 0, .int .i64 0, .int .i64 0, .int .i64 0, .sl 0 [] .nil, .int .i64 0]) := by kernel_rfl
@[simp] theorem Tryz.ag81 : tyAgg Tryz.prog 81 = some true := by kernel_rfl
@[simp] theorem Tryz.if81 : tyIface Tryz.prog 81 = some false := by kernel_rfl
attribute [simp] Tryz.underlying81
@[simp] theorem Tryz.th81 : (Tryz.prog.underlying 81).isSome = true := by kernel_rfl
@[simp] theorem Tryz.st81 : tyStr Tryz.prog 81 = false := by kernel_rfl
@[simp] theorem Tryz.in81 : tyInt Tryz.prog 81 = none := by kernel_rfl
@[simp] theorem Tryz.el81 : tyElem Tryz.prog 81 = none := by kernel_rfl
@[simp] theorem Tryz.ar81 : tyArr Tryz.prog 81 = none := by kernel_rfl
@[simp] theorem Tryz.fi81_0 : tyField Tryz.prog 81 0 = some (0, 3) := by kernel_rfl
@[simp] theorem Tryz.fi81_1 : tyField Tryz.prog 81 1 = some (1, 3) := by kernel_rfl
@[simp] theorem Tryz.fi81_2 : tyField Tryz.prog 81 2 = some (2, 9) := by kernel_rfl
@[simp] theorem Tryz.fi81_3 : tyField Tryz.prog 81 3 = some (3, 9) := by kernel_rfl
@[simp] theorem Tryz.fi81_4 : tyField Tryz.prog 81 4 = some (4, 3) := by kernel_rfl
@[simp] theorem Tryz.fi81_5 : tyField Tryz.prog 81 5 = some (5, 29) := by kernel_rfl
@[simp] theorem Tryz.fi81_6 : tyField Tryz.prog 81 6 = some (11, 47) := by kernel_rfl
@[simp] theorem Tryz.fi81_7 : tyField Tryz.prog 81 7 = some (12, 3) := by kernel_rfl
@[simp] theorem Tryz.pl81 : tyPlaces Tryz.prog 81 = some (.inl [(0, 1), (1, 1), (2, 1), (3, 1), (4, 1), (5, 6), (11, 1), (12, 1)]) := by kernel_rfl
@[simp] theorem Tryz.gu81 : Tryz.prog.eqGuardType Tryz.prog.depth 81 = false := by kernel_rfl
@[simp] theorem Tryz.si81 : Tryz.prog.stoodInHeld 81 = false := by kernel_rfl
@[simp] theorem Tryz.sz82 : tySize Tryz.prog 82 = some 1 := by kernel_rfl
@[simp] theorem Tryz.by82 : tyBytes Tryz.prog 82 = some 8 := by kernel_rfl
@[simp] theorem Tryz.ze82 : tyZero Tryz.prog 82 = some [.nilfn] := by kernel_rfl
@[simp] theorem Tryz.zv82 : tyZeroV Tryz.prog 82 = some (.nilfn) := by kernel_rfl
@[simp] theorem Tryz.ag82 : tyAgg Tryz.prog 82 = some false := by kernel_rfl
@[simp] theorem Tryz.if82 : tyIface Tryz.prog 82 = some false := by kernel_rfl
attribute [simp] Tryz.underlying82
@[simp] theorem Tryz.th82 : (Tryz.prog.underlying 82).isSome = true := by kernel_rfl
@[simp] theorem Tryz.st82 : tyStr Tryz.prog 82 = false := by kernel_rfl
@[simp] theorem Tryz.in82 : tyInt Tryz.prog 82 = none := by kernel_rfl
@[simp] theorem Tryz.el82 : tyElem Tryz.prog 82 = none := by kernel_rfl
@[simp] theorem Tryz.ar82 : tyArr Tryz.prog 82 = none := by kernel_rfl
@[simp] theorem Tryz.sz83 : tySize Tryz.prog 83 = some 1 := by kernel_rfl
@[simp] theorem Tryz.by83 : tyBytes Tryz.prog 83 = some 8 := by kernel_rfl
@[simp] theorem Tryz.ze83 : tyZero Tryz.prog 83 = some [.nilfn] := by kernel_rfl
@[simp] theorem Tryz.zv83 : tyZeroV Tryz.prog 83 = some (.nilfn) := by kernel_rfl
@[simp] theorem Tryz.ag83 : tyAgg Tryz.prog 83 = some false := by kernel_rfl
@[simp] theorem Tryz.if83 : tyIface Tryz.prog 83 = some false := by kernel_rfl
attribute [simp] Tryz.underlying83
@[simp] theorem Tryz.th83 : (Tryz.prog.underlying 83).isSome = true := by kernel_rfl
@[simp] theorem Tryz.st83 : tyStr Tryz.prog 83 = false := by kernel_rfl
@[simp] theorem Tryz.in83 : tyInt Tryz.prog 83 = none := by kernel_rfl
@[simp] theorem Tryz.el83 : tyElem Tryz.prog 83 = none := by kernel_rfl
@[simp] theorem Tryz.ar83 : tyArr Tryz.prog 83 = none := by kernel_rfl
@[simp] theorem Tryz.sz84 : tySize Tryz.prog 84 = some 1 := by kernel_rfl
@[simp] theorem Tryz.by84 : tyBytes Tryz.prog 84 = some 8 := by kernel_rfl
@[simp] theorem Tryz.ze84 : tyZero Tryz.prog 84 = some [.nilfn] := by kernel_rfl
@[simp] theorem Tryz.zv84 : tyZeroV Tryz.prog 84 = some (.nilfn) := by kernel_rfl
@[simp] theorem Tryz.ag84 : tyAgg Tryz.prog 84 = some false := by kernel_rfl
@[simp] theorem Tryz.if84 : tyIface Tryz.prog 84 = some false := by kernel_rfl
attribute [simp] Tryz.underlying84
@[simp] theorem Tryz.th84 : (Tryz.prog.underlying 84).isSome = true := by kernel_rfl
@[simp] theorem Tryz.st84 : tyStr Tryz.prog 84 = false := by kernel_rfl
@[simp] theorem Tryz.in84 : tyInt Tryz.prog 84 = none := by kernel_rfl
@[simp] theorem Tryz.el84 : tyElem Tryz.prog 84 = none := by kernel_rfl
@[simp] theorem Tryz.ar84 : tyArr Tryz.prog 84 = none := by kernel_rfl
@[simp] theorem Tryz.sz85 : tySize Tryz.prog 85 = some 1 := by kernel_rfl
@[simp] theorem Tryz.by85 : tyBytes Tryz.prog 85 = some 8 := by kernel_rfl
@[simp] theorem Tryz.ze85 : tyZero Tryz.prog 85 = some [.nilfn] := by kernel_rfl
@[simp] theorem Tryz.zv85 : tyZeroV Tryz.prog 85 = some (.nilfn) := by kernel_rfl
@[simp] theorem Tryz.ag85 : tyAgg Tryz.prog 85 = some false := by kernel_rfl
@[simp] theorem Tryz.if85 : tyIface Tryz.prog 85 = some false := by kernel_rfl
attribute [simp] Tryz.underlying85
@[simp] theorem Tryz.th85 : (Tryz.prog.underlying 85).isSome = true := by kernel_rfl
@[simp] theorem Tryz.st85 : tyStr Tryz.prog 85 = false := by kernel_rfl
@[simp] theorem Tryz.in85 : tyInt Tryz.prog 85 = none := by kernel_rfl
@[simp] theorem Tryz.el85 : tyElem Tryz.prog 85 = none := by kernel_rfl
@[simp] theorem Tryz.ar85 : tyArr Tryz.prog 85 = none := by kernel_rfl
@[simp] theorem Tryz.sz86 : tySize Tryz.prog 86 = some 1 := by kernel_rfl
@[simp] theorem Tryz.by86 : tyBytes Tryz.prog 86 = some 8 := by kernel_rfl
@[simp] theorem Tryz.ze86 : tyZero Tryz.prog 86 = some [.nilfn] := by kernel_rfl
@[simp] theorem Tryz.zv86 : tyZeroV Tryz.prog 86 = some (.nilfn) := by kernel_rfl
@[simp] theorem Tryz.ag86 : tyAgg Tryz.prog 86 = some false := by kernel_rfl
@[simp] theorem Tryz.if86 : tyIface Tryz.prog 86 = some false := by kernel_rfl
attribute [simp] Tryz.underlying86
@[simp] theorem Tryz.th86 : (Tryz.prog.underlying 86).isSome = true := by kernel_rfl
@[simp] theorem Tryz.st86 : tyStr Tryz.prog 86 = false := by kernel_rfl
@[simp] theorem Tryz.in86 : tyInt Tryz.prog 86 = none := by kernel_rfl
@[simp] theorem Tryz.el86 : tyElem Tryz.prog 86 = none := by kernel_rfl
@[simp] theorem Tryz.ar86 : tyArr Tryz.prog 86 = none := by kernel_rfl
@[simp] theorem Tryz.sz87 : tySize Tryz.prog 87 = some 1 := by kernel_rfl
@[simp] theorem Tryz.by87 : tyBytes Tryz.prog 87 = some 8 := by kernel_rfl
@[simp] theorem Tryz.ze87 : tyZero Tryz.prog 87 = some [.nilptr] := by kernel_rfl
@[simp] theorem Tryz.zv87 : tyZeroV Tryz.prog 87 = some (.nilptr) := by kernel_rfl
@[simp] theorem Tryz.ag87 : tyAgg Tryz.prog 87 = some false := by kernel_rfl
@[simp] theorem Tryz.if87 : tyIface Tryz.prog 87 = some false := by kernel_rfl
attribute [simp] Tryz.underlying87
@[simp] theorem Tryz.th87 : (Tryz.prog.underlying 87).isSome = true := by kernel_rfl
@[simp] theorem Tryz.st87 : tyStr Tryz.prog 87 = false := by kernel_rfl
@[simp] theorem Tryz.in87 : tyInt Tryz.prog 87 = none := by kernel_rfl
@[simp] theorem Tryz.el87 : tyElem Tryz.prog 87 = none := by kernel_rfl
@[simp] theorem Tryz.ar87 : tyArr Tryz.prog 87 = none := by kernel_rfl
@[simp] theorem Tryz.sz88 : tySize Tryz.prog 88 = some 54 := by kernel_rfl
@[simp] theorem Tryz.by88 : tyBytes Tryz.prog 88 = some 544 := by kernel_rfl
@[simp] theorem Tryz.ze88 : tyZero Tryz.prog 88 = some [.int .i64 0, .int .i64 0, .int .i64 0, .int .i64 0, .int .i64 0, .int .i64 0, .int .i64 0, .int .i64 0, .sl 0 [] .nil, .int .i64 0, .int .i64 0, .int .i64 0, .int .i64 0, .int .i64 0, .int .i64 0, .int .i64 0, .int .i64 0, .int .i64 0, .int .i64 0, .int .i64 0, .int .i64 0, .int .i64 0, .int .i64 0, .int .i64 0, .int .i64 0, .int .i64 0, .int .i64 0, .int .i64 0, .int .i64 0, .int .i64 0, .int .i64 0, .int .i64 0, .int .i64 0, .int .i64 0, .int .i64 0, .int .i64 0, .int .i64 0, .int .i64 0, .int .i64 0, .sl 0 [] .nil, .sl 0 [] .nil, .sl 0 [] .nil, .sl 0 [] .nil, .int .i64 0, .int .i64 0, .int .i64 0, .int .i64 0, .int .i64 0, .int .i64 0, .int .i64 0, .sl 0 [] .nil, .int .i64 0, .int .i64 0, .sl 0 [] .nil] := by kernel_rfl
@[simp] theorem Tryz.zv88 : tyZeroV Tryz.prog 88 = some (.agg [.int .i64 0, .int .i64 0, .int .i64 0, .int .i64 0, .int .i64 0, .int .i64 0, .int .i64 0, .int .i64 0, .sl 0 [] .nil, .int .i64 0, .int .i64 0, .int .i64 0, .int .i64 0, .int .i64 0, .int .i64 0, .int .i64 0, .int .i64 0, .int .i64 0, .int .i64 0, .int .i64 0, .int .i64 0, .int .i64 0, .int .i64 0, .int .i64 0, .int .i64 0, .int .i64 0, .int .i64 0, .int .i64 0, .int .i64 0, .int .i64 0, .int .i64 0, .int .i64 0, .int .i64 0, .int .i64 0, .int .i64 0, .int .i64 0, .int .i64 0, .int .i64 0, .int .i64 0, .sl 0 [] .nil, .sl 0 [] .nil, .sl 0 [] .nil, .sl 0 [] .nil, .int .i64 0, .int .i64 0, .int .i64 0, .int .i64 0, .int .i64 0, .int .i64 0, .int .i64 0, .sl 0 [] .nil, .int .i64 0, .int .i64 0, .sl 0 [] .nil]) := by kernel_rfl
@[simp] theorem Tryz.ag88 : tyAgg Tryz.prog 88 = some true := by kernel_rfl
@[simp] theorem Tryz.if88 : tyIface Tryz.prog 88 = some false := by kernel_rfl
attribute [simp] Tryz.underlying88
@[simp] theorem Tryz.th88 : (Tryz.prog.underlying 88).isSome = true := by kernel_rfl
@[simp] theorem Tryz.st88 : tyStr Tryz.prog 88 = false := by kernel_rfl
@[simp] theorem Tryz.in88 : tyInt Tryz.prog 88 = none := by kernel_rfl
@[simp] theorem Tryz.el88 : tyElem Tryz.prog 88 = none := by kernel_rfl
@[simp] theorem Tryz.ar88 : tyArr Tryz.prog 88 = none := by kernel_rfl
@[simp] theorem Tryz.fi88_0 : tyField Tryz.prog 88 0 = some (0, 42) := by kernel_rfl
@[simp] theorem Tryz.fi88_1 : tyField Tryz.prog 88 1 = some (9, 38) := by kernel_rfl
@[simp] theorem Tryz.fi88_2 : tyField Tryz.prog 88 2 = some (53, 49) := by kernel_rfl
@[simp] theorem Tryz.pl88 : tyPlaces Tryz.prog 88 = some (.inl [(0, 9), (9, 44), (53, 1)]) := by kernel_rfl
@[simp] theorem Tryz.gu88 : Tryz.prog.eqGuardType Tryz.prog.depth 88 = false := by kernel_rfl
@[simp] theorem Tryz.si88 : Tryz.prog.stoodInHeld 88 = false := by kernel_rfl
@[simp] theorem Tryz.sz89 : tySize Tryz.prog 89 = some 54 := by kernel_rfl
@[simp] theorem Tryz.by89 : tyBytes Tryz.prog 89 = some 544 := by kernel_rfl
@[simp] theorem Tryz.ze89 : tyZero Tryz.prog 89 = some [.int .i64 0, .int .i64 0, .int .i64 0, .int .i64 0, .int .i64 0, .int .i64 0, .int .i64 0, .int .i64 0, .sl 0 [] .nil, .int .i64 0, .int .i64 0, .int .i64 0, .int .i64 0, .int .i64 0, .int .i64 0, .int .i64 0, .int .i64 0, .int .i64 0, .int .i64 0, .int .i64 0, .int .i64 0, .int .i64 0, .int .i64 0, .int .i64 0, .int .i64 0, .int .i64 0, .int .i64 0, .int .i64 0, .int .i64 0, .int .i64 0, .int .i64 0, .int .i64 0, .int .i64 0, .int .i64 0, .int .i64 0, .int .i64 0, .int .i64 0, .int .i64 0, .int .i64 0, .sl 0 [] .nil, .sl 0 [] .nil, .sl 0 [] .nil, .sl 0 [] .nil, .int .i64 0, .int .i64 0, .int .i64 0, .int .i64 0, .int .i64 0, .int .i64 0, .int .i64 0, .sl 0 [] .nil, .int .i64 0, .int .i64 0, .sl 0 [] .nil] := by kernel_rfl
@[simp] theorem Tryz.zv89 : tyZeroV Tryz.prog 89 = some (.agg [.int .i64 0, .int .i64 0, .int .i64 0, .int .i64 0, .int .i64 0, .int .i64 0, .int .i64 0, .int .i64 0, .sl 0 [] .nil, .int .i64 0, .int .i64 0, .int .i64 0, .int .i64 0, .int .i64 0, .int .i64 0, .int .i64 0, .int .i64 0, .int .i64 0, .int .i64 0, .int .i64 0, .int .i64 0, .int .i64 0, .int .i64 0, .int .i64 0, .int .i64 0, .int .i64 0, .int .i64 0, .int .i64 0, .int .i64 0, .int .i64 0, .int .i64 0, .int .i64 0, .int .i64 0, .int .i64 0, .int .i64 0, .int .i64 0, .int .i64 0, .int .i64 0, .int .i64 0, .sl 0 [] .nil, .sl 0 [] .nil, .sl 0 [] .nil, .sl 0 [] .nil, .int .i64 0, .int .i64 0, .int .i64 0, .int .i64 0, .int .i64 0, .int .i64 0, .int .i64 0, .sl 0 [] .nil, .int .i64 0, .int .i64 0, .sl 0 [] .nil]) := by kernel_rfl
@[simp] theorem Tryz.ag89 : tyAgg Tryz.prog 89 = some true := by kernel_rfl
@[simp] theorem Tryz.if89 : tyIface Tryz.prog 89 = some false := by kernel_rfl
attribute [simp] Tryz.underlying89
@[simp] theorem Tryz.th89 : (Tryz.prog.underlying 89).isSome = true := by kernel_rfl
@[simp] theorem Tryz.st89 : tyStr Tryz.prog 89 = false := by kernel_rfl
@[simp] theorem Tryz.in89 : tyInt Tryz.prog 89 = none := by kernel_rfl
@[simp] theorem Tryz.el89 : tyElem Tryz.prog 89 = none := by kernel_rfl
@[simp] theorem Tryz.ar89 : tyArr Tryz.prog 89 = none := by kernel_rfl
@[simp] theorem Tryz.fi89_0 : tyField Tryz.prog 89 0 = some (0, 42) := by kernel_rfl
@[simp] theorem Tryz.fi89_1 : tyField Tryz.prog 89 1 = some (9, 38) := by kernel_rfl
@[simp] theorem Tryz.fi89_2 : tyField Tryz.prog 89 2 = some (53, 49) := by kernel_rfl
@[simp] theorem Tryz.pl89 : tyPlaces Tryz.prog 89 = some (.inl [(0, 9), (9, 44), (53, 1)]) := by kernel_rfl
@[simp] theorem Tryz.gu89 : Tryz.prog.eqGuardType Tryz.prog.depth 89 = false := by kernel_rfl
@[simp] theorem Tryz.si89 : Tryz.prog.stoodInHeld 89 = false := by kernel_rfl
@[simp] theorem Tryz.sz90 : tySize Tryz.prog 90 = some 1 := by kernel_rfl
@[simp] theorem Tryz.by90 : tyBytes Tryz.prog 90 = some 8 := by kernel_rfl
@[simp] theorem Tryz.ze90 : tyZero Tryz.prog 90 = some [.nilfn] := by kernel_rfl
@[simp] theorem Tryz.zv90 : tyZeroV Tryz.prog 90 = some (.nilfn) := by kernel_rfl
@[simp] theorem Tryz.ag90 : tyAgg Tryz.prog 90 = some false := by kernel_rfl
@[simp] theorem Tryz.if90 : tyIface Tryz.prog 90 = some false := by kernel_rfl
attribute [simp] Tryz.underlying90
@[simp] theorem Tryz.th90 : (Tryz.prog.underlying 90).isSome = true := by kernel_rfl
@[simp] theorem Tryz.st90 : tyStr Tryz.prog 90 = false := by kernel_rfl
@[simp] theorem Tryz.in90 : tyInt Tryz.prog 90 = none := by kernel_rfl
@[simp] theorem Tryz.el90 : tyElem Tryz.prog 90 = none := by kernel_rfl
@[simp] theorem Tryz.ar90 : tyArr Tryz.prog 90 = none := by kernel_rfl
@[simp] theorem Tryz.sz92 : tySize Tryz.prog 92 = some 1 := by kernel_rfl
@[simp] theorem Tryz.by92 : tyBytes Tryz.prog 92 = some 8 := by kernel_rfl
@[simp] theorem Tryz.ze92 : tyZero Tryz.prog 92 = some [.nilfn] := by kernel_rfl
@[simp] theorem Tryz.zv92 : tyZeroV Tryz.prog 92 = some (.nilfn) := by kernel_rfl
@[simp] theorem Tryz.ag92 : tyAgg Tryz.prog 92 = some false := by kernel_rfl
@[simp] theorem Tryz.if92 : tyIface Tryz.prog 92 = some false := by kernel_rfl
attribute [simp] Tryz.underlying92
@[simp] theorem Tryz.th92 : (Tryz.prog.underlying 92).isSome = true := by kernel_rfl
@[simp] theorem Tryz.st92 : tyStr Tryz.prog 92 = false := by kernel_rfl
@[simp] theorem Tryz.in92 : tyInt Tryz.prog 92 = none := by kernel_rfl
@[simp] theorem Tryz.el92 : tyElem Tryz.prog 92 = none := by kernel_rfl
@[simp] theorem Tryz.ar92 : tyArr Tryz.prog 92 = none := by kernel_rfl
@[simp] theorem Tryz.sz93 : tySize Tryz.prog 93 = some 1 := by kernel_rfl
@[simp] theorem Tryz.by93 : tyBytes Tryz.prog 93 = some 8 := by kernel_rfl
@[simp] theorem Tryz.ze93 : tyZero Tryz.prog 93 = some [.nilfn] := by kernel_rfl
@[simp] theorem Tryz.zv93 : tyZeroV Tryz.prog 93 = some (.nilfn) := by kernel_rfl
@[simp] theorem Tryz.ag93 : tyAgg Tryz.prog 93 = some false := by kernel_rfl
@[simp] theorem Tryz.if93 : tyIface Tryz.prog 93 = some false := by kernel_rfl
attribute [simp] Tryz.underlying93
@[simp] theorem Tryz.th93 : (Tryz.prog.underlying 93).isSome = true := by kernel_rfl
@[simp] theorem Tryz.st93 : tyStr Tryz.prog 93 = false := by kernel_rfl
@[simp] theorem Tryz.in93 : tyInt Tryz.prog 93 = none := by kernel_rfl
@[simp] theorem Tryz.el93 : tyElem Tryz.prog 93 = none := by kernel_rfl
@[simp] theorem Tryz.ar93 : tyArr Tryz.prog 93 = none := by kernel_rfl
@[simp] theorem Tryz.sz94 : tySize Tryz.prog 94 = some 1 := by kernel_rfl
@[simp] theorem Tryz.by94 : tyBytes Tryz.prog 94 = some 8 := by kernel_rfl
@[simp] theorem Tryz.ze94 : tyZero Tryz.prog 94 = some [.nilfn] := by kernel_rfl
@[simp] theorem Tryz.zv94 : tyZeroV Tryz.prog 94 = some (.nilfn) := by kernel_rfl
@[simp] theorem Tryz.ag94 : tyAgg Tryz.prog 94 = some false := by kernel_rfl
@[simp] theorem Tryz.if94 : tyIface Tryz.prog 94 = some false := by kernel_rfl
attribute [simp] Tryz.underlying94
@[simp] theorem Tryz.th94 : (Tryz.prog.underlying 94).isSome = true := by kernel_rfl
@[simp] theorem Tryz.st94 : tyStr Tryz.prog 94 = false := by kernel_rfl
@[simp] theorem Tryz.in94 : tyInt Tryz.prog 94 = none := by kernel_rfl
@[simp] theorem Tryz.el94 : tyElem Tryz.prog 94 = none := by kernel_rfl
@[simp] theorem Tryz.ar94 : tyArr Tryz.prog 94 = none := by kernel_rfl
@[simp] theorem Tryz.sz95 : tySize Tryz.prog 95 = some 1 := by kernel_rfl
@[simp] theorem Tryz.by95 : tyBytes Tryz.prog 95 = some 8 := by kernel_rfl
@[simp] theorem Tryz.ze95 : tyZero Tryz.prog 95 = some [.nilfn] := by kernel_rfl
@[simp] theorem Tryz.zv95 : tyZeroV Tryz.prog 95 = some (.nilfn) := by kernel_rfl
@[simp] theorem Tryz.ag95 : tyAgg Tryz.prog 95 = some false := by kernel_rfl
@[simp] theorem Tryz.if95 : tyIface Tryz.prog 95 = some false := by kernel_rfl
attribute [simp] Tryz.underlying95
@[simp] theorem Tryz.th95 : (Tryz.prog.underlying 95).isSome = true := by kernel_rfl
@[simp] theorem Tryz.st95 : tyStr Tryz.prog 95 = false := by kernel_rfl
@[simp] theorem Tryz.in95 : tyInt Tryz.prog 95 = none := by kernel_rfl
@[simp] theorem Tryz.el95 : tyElem Tryz.prog 95 = none := by kernel_rfl
@[simp] theorem Tryz.ar95 : tyArr Tryz.prog 95 = none := by kernel_rfl
@[simp] theorem Tryz.sz96 : tySize Tryz.prog 96 = some 1 := by kernel_rfl
@[simp] theorem Tryz.by96 : tyBytes Tryz.prog 96 = some 8 := by kernel_rfl
@[simp] theorem Tryz.ze96 : tyZero Tryz.prog 96 = some [.nilfn] := by kernel_rfl
@[simp] theorem Tryz.zv96 : tyZeroV Tryz.prog 96 = some (.nilfn) := by kernel_rfl
@[simp] theorem Tryz.ag96 : tyAgg Tryz.prog 96 = some false := by kernel_rfl
@[simp] theorem Tryz.if96 : tyIface Tryz.prog 96 = some false := by kernel_rfl
attribute [simp] Tryz.underlying96
@[simp] theorem Tryz.th96 : (Tryz.prog.underlying 96).isSome = true := by kernel_rfl
@[simp] theorem Tryz.st96 : tyStr Tryz.prog 96 = false := by kernel_rfl
@[simp] theorem Tryz.in96 : tyInt Tryz.prog 96 = none := by kernel_rfl
@[simp] theorem Tryz.el96 : tyElem Tryz.prog 96 = none := by kernel_rfl
@[simp] theorem Tryz.ar96 : tyArr Tryz.prog 96 = none := by kernel_rfl
@[simp] theorem Tryz.sz97 : tySize Tryz.prog 97 = some 1 := by kernel_rfl
@[simp] theorem Tryz.by97 : tyBytes Tryz.prog 97 = some 8 := by kernel_rfl
@[simp] theorem Tryz.ze97 : tyZero Tryz.prog 97 = some [.nilfn] := by kernel_rfl
@[simp] theorem Tryz.zv97 : tyZeroV Tryz.prog 97 = some (.nilfn) := by kernel_rfl
@[simp] theorem Tryz.ag97 : tyAgg Tryz.prog 97 = some false := by kernel_rfl
@[simp] theorem Tryz.if97 : tyIface Tryz.prog 97 = some false := by kernel_rfl
attribute [simp] Tryz.underlying97
@[simp] theorem Tryz.th97 : (Tryz.prog.underlying 97).isSome = true := by kernel_rfl
@[simp] theorem Tryz.st97 : tyStr Tryz.prog 97 = false := by kernel_rfl
@[simp] theorem Tryz.in97 : tyInt Tryz.prog 97 = none := by kernel_rfl
@[simp] theorem Tryz.el97 : tyElem Tryz.prog 97 = none := by kernel_rfl
@[simp] theorem Tryz.ar97 : tyArr Tryz.prog 97 = none := by kernel_rfl
@[simp] theorem Tryz.sz98 : tySize Tryz.prog 98 = some 1 := by kernel_rfl
@[simp] theorem Tryz.by98 : tyBytes Tryz.prog 98 = some 8 := by kernel_rfl
@[simp] theorem Tryz.ze98 : tyZero Tryz.prog 98 = some [.nilfn] := by kernel_rfl
@[simp] theorem Tryz.zv98 : tyZeroV Tryz.prog 98 = some (.nilfn) := by kernel_rfl
@[simp] theorem Tryz.ag98 : tyAgg Tryz.prog 98 = some false := by kernel_rfl
@[simp] theorem Tryz.if98 : tyIface Tryz.prog 98 = some false := by kernel_rfl
attribute [simp] Tryz.underlying98
@[simp] theorem Tryz.th98 : (Tryz.prog.underlying 98).isSome = true := by kernel_rfl
@[simp] theorem Tryz.st98 : tyStr Tryz.prog 98 = false := by kernel_rfl
@[simp] theorem Tryz.in98 : tyInt Tryz.prog 98 = none := by kernel_rfl
@[simp] theorem Tryz.el98 : tyElem Tryz.prog 98 = none := by kernel_rfl
@[simp] theorem Tryz.ar98 : tyArr Tryz.prog 98 = none := by kernel_rfl
@[simp] theorem Tryz.sz99 : tySize Tryz.prog 99 = some 9 := by kernel_rfl
@[simp] theorem Tryz.by99 : tyBytes Tryz.prog 99 = some 72 := by kernel_rfl
@[simp] theorem Tryz.ze99 : tyZero Tryz.prog 99 = some [.int .i64 0, .int .i64 0, .int .i64 0, .int .i64 0, .int .i64 0, .int .i64 0, .int .i64 0, .int .i64 0, .int .i64 0] := by kernel_rfl
@[simp] theorem Tryz.zv99 : tyZeroV Tryz.prog 99 = some (.agg [.int .i64 0, .int .i64 0, .int .i64 0, .int .i64 0, .int .i64 0, .int .i64 0, .int .i64 0, .int .i64 0, .int .i64 0]) := by kernel_rfl
@[simp] theorem Tryz.ag99 : tyAgg Tryz.prog 99 = some true := by kernel_rfl
@[simp] theorem Tryz.if99 : tyIface Tryz.prog 99 = some false := by kernel_rfl
attribute [simp] Tryz.underlying99
@[simp] theorem Tryz.th99 : (Tryz.prog.underlying 99).isSome = true := by kernel_rfl
@[simp] theorem Tryz.st99 : tyStr Tryz.prog 99 = false := by kernel_rfl
@[simp] theorem Tryz.in99 : tyInt Tryz.prog 99 = none := by kernel_rfl
@[simp] theorem Tryz.el99 : tyElem Tryz.prog 99 = none := by kernel_rfl
@[simp] theorem Tryz.ar99 : tyArr Tryz.prog 99 = some (3, 66) := by kernel_rfl
@[simp] theorem Tryz.pl99 : tyPlaces Tryz.prog 99 = some (.inr 3) := by kernel_rfl
@[simp] theorem Tryz.gu99 : Tryz.prog.eqGuardType Tryz.prog.depth 99 = false := by kernel_rfl
@[simp] theorem Tryz.sz100 : tySize Tryz.prog 100 = some 1 := by kernel_rfl
@[simp] theorem Tryz.by100 : tyBytes Tryz.prog 100 = some 8 := by kernel_rfl
@[simp] theorem Tryz.ze100 : tyZero Tryz.prog 100 = some [.nilfn] := by kernel_rfl
@[simp] theorem Tryz.zv100 : tyZeroV Tryz.prog 100 = some (.nilfn) := by kernel_rfl
@[simp] theorem Tryz.ag100 : tyAgg Tryz.prog 100 = some false := by kernel_rfl
@[simp] theorem Tryz.if100 : tyIface Tryz.prog 100 = some false := by kernel_rfl
attribute [simp] Tryz.underlying100
@[simp] theorem Tryz.th100 : (Tryz.prog.underlying 100).isSome = true := by kernel_rfl
@[simp] theorem Tryz.st100 : tyStr Tryz.prog 100 = false := by kernel_rfl
@[simp] theorem Tryz.in100 : tyInt Tryz.prog 100 = none := by kernel_rfl
@[simp] theorem Tryz.el100 : tyElem Tryz.prog 100 = none := by kernel_rfl
@[simp] theorem Tryz.ar100 : tyArr Tryz.prog 100 = none := by kernel_rfl
@[simp] theorem Tryz.sz101 : tySize Tryz.prog 101 = some 1 := by kernel_rfl
@[simp] theorem Tryz.by101 : tyBytes Tryz.prog 101 = some 8 := by kernel_rfl
@[simp] theorem Tryz.ze101 : tyZero Tryz.prog 101 = some [.nilfn] := by kernel_rfl
@[simp] theorem Tryz.zv101 : tyZeroV Tryz.prog 101 = some (.nilfn) := by kernel_rfl
@[simp] theorem Tryz.ag101 : tyAgg Tryz.prog 101 = some false := by kernel_rfl
@[simp] theorem Tryz.if101 : tyIface Tryz.prog 101 = some false := by kernel_rfl
attribute [simp] Tryz.underlying101
@[simp] theorem Tryz.th101 : (Tryz.prog.underlying 101).isSome = true := by kernel_rfl
@[simp] theorem Tryz.st101 : tyStr Tryz.prog 101 = false := by kernel_rfl
@[simp] theorem Tryz.in101 : tyInt Tryz.prog 101 = none := by kernel_rfl
@[simp] theorem Tryz.el101 : tyElem Tryz.prog 101 = none := by kernel_rfl
@[simp] theorem Tryz.ar101 : tyArr Tryz.prog 101 = none := by kernel_rfl
@[simp] theorem Tryz.sz102 : tySize Tryz.prog 102 = some 1 := by kernel_rfl
@[simp] theorem Tryz.by102 : tyBytes Tryz.prog 102 = some 24 := by kernel_rfl
@[simp] theorem Tryz.ze102 : tyZero Tryz.prog 102 = some [.sl 0 [] .nil] := by kernel_rfl
@[simp] theorem Tryz.zv102 : tyZeroV Tryz.prog 102 = some (.agg [.sl 0 [] .nil]) := by kernel_rfl
@[simp] theorem Tryz.ag102 : tyAgg Tryz.prog 102 = some true := by kernel_rfl
@[simp] theorem Tryz.if102 : tyIface Tryz.prog 102 = some false := by kernel_rfl
attribute [simp] Tryz.underlying102
@[simp] theorem Tryz.th102 : (Tryz.prog.underlying 102).isSome = true := by kernel_rfl
@[simp] theorem Tryz.st102 : tyStr Tryz.prog 102 = false := by kernel_rfl
@[simp] theorem Tryz.in102 : tyInt Tryz.prog 102 = none := by kernel_rfl
@[simp] theorem Tryz.el102 : tyElem Tryz.prog 102 = none := by kernel_rfl
@[simp] theorem Tryz.ar102 : tyArr Tryz.prog 102 = none := by kernel_rfl
@[simp] theorem Tryz.fi102_0 : tyField Tryz.prog 102 0 = some (0, 77) := by kernel_rfl
@[simp] theorem Tryz.pl102 : tyPlaces Tryz.prog 102 = some (.inl [(0, 1)]) := by kernel_rfl
@[simp] theorem Tryz.gu102 : Tryz.prog.eqGuardType Tryz.prog.depth 102 = false := by kernel_rfl
@[simp] theorem Tryz.si102 : Tryz.prog.stoodInHeld 102 = false := by kernel_rfl
@[simp] theorem Tryz.sz103 : tySize Tryz.prog 103 = some 1 := by kernel_rfl
@[simp] theorem Tryz.by103 : tyBytes Tryz.prog 103 = some 24 := by kernel_rfl
@[simp] theorem Tryz.ze103 : tyZero Tryz.prog 103 = some [.sl 0 [] .nil] := by kernel_rfl
@[simp] theorem Tryz.zv103 : tyZeroV Tryz.prog 103 = some (.agg [.sl 0 [] .nil]) := by kernel_rfl
@[simp] theorem Tryz.ag103 : tyAgg Tryz.prog 103 = some true := by kernel_rfl
@[simp] theorem Tryz.if103 : tyIface Tryz.prog 103 = some false := by kernel_rfl
attribute [simp] Tryz.underlying103
@[simp] theorem Tryz.th103 : (Tryz.prog.underlying 103).isSome = true := by kernel_rfl
@[simp] theorem Tryz.st103 : tyStr Tryz.prog 103 = false := by kernel_rfl
@[simp] theorem Tryz.in103 : tyInt Tryz.prog 103 = none := by kernel_rfl
@[simp] theorem Tryz.el103 : tyElem Tryz.prog 103 = none := by kernel_rfl
@[simp] theorem Tryz.ar103 : tyArr Tryz.prog 103 = none := by kernel_rfl
@[simp] theorem Tryz.fi103_0 : tyField Tryz.prog 103 0 = some (0, 77) := by kernel_rfl
@[simp] theorem Tryz.pl103 : tyPlaces Tryz.prog 103 = some (.inl [(0, 1)]) := by kernel_rfl
@[simp] theorem Tryz.gu103 : Tryz.prog.eqGuardType Tryz.prog.depth 103 = false := by kernel_rfl
@[simp] theorem Tryz.si103 : Tryz.prog.stoodInHeld 103 = false := by kernel_rfl
@[simp] theorem Tryz.sz104 : tySize Tryz.prog 104 = some 1 := by kernel_rfl
@[simp] theorem Tryz.by104 : tyBytes Tryz.prog 104 = some 8 := by kernel_rfl
@[simp] theorem Tryz.ze104 : tyZero Tryz.prog 104 = some [.nilfn] := by kernel_rfl
@[simp] theorem Tryz.zv104 : tyZeroV Tryz.prog 104 = some (.nilfn) := by kernel_rfl
@[simp] theorem Tryz.ag104 : tyAgg Tryz.prog 104 = some false := by kernel_rfl
@[simp] theorem Tryz.if104 : tyIface Tryz.prog 104 = some false := by kernel_rfl
attribute [simp] Tryz.underlying104
@[simp] theorem Tryz.th104 : (Tryz.prog.underlying 104).isSome = true := by kernel_rfl
@[simp] theorem Tryz.st104 : tyStr Tryz.prog 104 = false := by kernel_rfl
@[simp] theorem Tryz.in104 : tyInt Tryz.prog 104 = none := by kernel_rfl
@[simp] theorem Tryz.el104 : tyElem Tryz.prog 104 = none := by kernel_rfl
@[simp] theorem Tryz.ar104 : tyArr Tryz.prog 104 = none := by kernel_rfl
@[simp] theorem Tryz.sz105 : tySize Tryz.prog 105 = some 1 := by kernel_rfl
@[simp] theorem Tryz.by105 : tyBytes Tryz.prog 105 = some 8 := by kernel_rfl
@[simp] theorem Tryz.ze105 : tyZero Tryz.prog 105 = some [.nilfn] := by kernel_rfl
@[simp] theorem Tryz.zv105 : tyZeroV Tryz.prog 105 = some (.nilfn) := by kernel_rfl
@[simp] theorem Tryz.ag105 : tyAgg Tryz.prog 105 = some false := by kernel_rfl
@[simp] theorem Tryz.if105 : tyIface Tryz.prog 105 = some false := by kernel_rfl
attribute [simp] Tryz.underlying105
@[simp] theorem Tryz.th105 : (Tryz.prog.underlying 105).isSome = true := by kernel_rfl
@[simp] theorem Tryz.st105 : tyStr Tryz.prog 105 = false := by kernel_rfl
@[simp] theorem Tryz.in105 : tyInt Tryz.prog 105 = none := by kernel_rfl
@[simp] theorem Tryz.el105 : tyElem Tryz.prog 105 = none := by kernel_rfl
@[simp] theorem Tryz.ar105 : tyArr Tryz.prog 105 = none := by kernel_rfl
@[simp] theorem Tryz.sz106 : tySize Tryz.prog 106 = some 1 := by kernel_rfl
@[simp] theorem Tryz.by106 : tyBytes Tryz.prog 106 = some 8 := by kernel_rfl
@[simp] theorem Tryz.ze106 : tyZero Tryz.prog 106 = some [.nilfn] := by kernel_rfl
@[simp] theorem Tryz.zv106 : tyZeroV Tryz.prog 106 = some (.nilfn) := by kernel_rfl
@[simp] theorem Tryz.ag106 : tyAgg Tryz.prog 106 = some false := by kernel_rfl
@[simp] theorem Tryz.if106 : tyIface Tryz.prog 106 = some false := by kernel_rfl
attribute [simp] Tryz.underlying106
@[simp] theorem Tryz.th106 : (Tryz.prog.underlying 106).isSome = true := by kernel_rfl
@[simp] theorem Tryz.st106 : tyStr Tryz.prog 106 = false := by kernel_rfl
@[simp] theorem Tryz.in106 : tyInt Tryz.prog 106 = none := by kernel_rfl
@[simp] theorem Tryz.el106 : tyElem Tryz.prog 106 = none := by kernel_rfl
@[simp] theorem Tryz.ar106 : tyArr Tryz.prog 106 = none := by kernel_rfl
@[simp] theorem Tryz.sz107 : tySize Tryz.prog 107 = some 1 := by kernel_rfl
@[simp] theorem Tryz.by107 : tyBytes Tryz.prog 107 = some 8 := by kernel_rfl
@[simp] theorem Tryz.ze107 : tyZero Tryz.prog 107 = some [.nilfn] := by kernel_rfl
@[simp] theorem Tryz.zv107 : tyZeroV Tryz.prog 107 = some (.nilfn) := by kernel_rfl
@[simp] theorem Tryz.ag107 : tyAgg Tryz.prog 107 = some false := by kernel_rfl
@[simp] theorem Tryz.if107 : tyIface Tryz.prog 107 = some false := by kernel_rfl
attribute [simp] Tryz.underlying107
@[simp] theorem Tryz.th107 : (Tryz.prog.underlying 107).isSome = true := by kernel_rfl
@[simp] theorem Tryz.st107 : tyStr Tryz.prog 107 = false := by kernel_rfl
@[simp] theorem Tryz.in107 : tyInt Tryz.prog 107 = none := by kernel_rfl
@[simp] theorem Tryz.el107 : tyElem Tryz.prog 107 = none := by kernel_rfl
@[simp] theorem Tryz.ar107 : tyArr Tryz.prog 107 = none := by kernel_rfl
@[simp] theorem Tryz.sz108 : tySize Tryz.prog 108 = some 1 := by kernel_rfl
@[simp] theorem Tryz.by108 : tyBytes Tryz.prog 108 = some 8 := by kernel_rfl
@[simp] theorem Tryz.ze108 : tyZero Tryz.prog 108 = some [.nilfn] := by kernel_rfl
@[simp] theorem Tryz.zv108 : tyZeroV Tryz.prog 108 = some (.nilfn) := by kernel_rfl
@[simp] theorem Tryz.ag108 : tyAgg Tryz.prog 108 = some false := by kernel_rfl
@[simp] theorem Tryz.if108 : tyIface Tryz.prog 108 = some false := by kernel_rfl
attribute [simp] Tryz.underlying108
@[simp] theorem Tryz.th108 : (Tryz.prog.underlying 108).isSome = true := by kernel_rfl
@[simp] theorem Tryz.st108 : tyStr Tryz.prog 108 = false := by kernel_rfl
@[simp] theorem Tryz.in108 : tyInt Tryz.prog 108 = none := by kernel_rfl
@[simp] theorem Tryz.el108 : tyElem Tryz.prog 108 = none := by kernel_rfl
@[simp] theorem Tryz.ar108 : tyArr Tryz.prog 108 = none := by kernel_rfl
@[simp] theorem Tryz.sz109 : tySize Tryz.prog 109 = some 1 := by kernel_rfl
@[simp] theorem Tryz.by109 : tyBytes Tryz.prog 109 = some 8 := by kernel_rfl
@[simp] theorem Tryz.ze109 : tyZero Tryz.prog 109 = some [.nilfn] := by kernel_rfl
@[simp] theorem Tryz.zv109 : tyZeroV Tryz.prog 109 = some (.nilfn) := by kernel_rfl
@[simp] theorem Tryz.ag109 : tyAgg Tryz.prog 109 = some false := by kernel_rfl
@[simp] theorem Tryz.if109 : tyIface Tryz.prog 109 = some false := by kernel_rfl
attribute [simp] Tryz.underlying109
@[simp] theorem Tryz.th109 : (Tryz.prog.underlying 109).isSome = true := by kernel_rfl
@[simp] theorem Tryz.st109 : tyStr Tryz.prog 109 = false := by kernel_rfl
@[simp] theorem Tryz.in109 : tyInt Tryz.prog 109 = none := by kernel_rfl
@[simp] theorem Tryz.el109 : tyElem Tryz.prog 109 = none := by kernel_rfl
@[simp] theorem Tryz.ar109 : tyArr Tryz.prog 109 = none := by kernel_rfl
@[simp] theorem Tryz.sz110 : tySize Tryz.prog 110 = some 1 := by kernel_rfl
@[simp] theorem Tryz.by110 : tyBytes Tryz.prog 110 = some 8 := by kernel_rfl
@[simp] theorem Tryz.ze110 : tyZero Tryz.prog 110 = some [.nilfn] := by kernel_rfl
@[simp] theorem Tryz.zv110 : tyZeroV Tryz.prog 110 = some (.nilfn) := by kernel_rfl
@[simp] theorem Tryz.ag110 : tyAgg Tryz.prog 110 = some false := by kernel_rfl
@[simp] theorem Tryz.if110 : tyIface Tryz.prog 110 = some false := by kernel_rfl
attribute [simp] Tryz.underlying110
@[simp] theorem Tryz.th110 : (Tryz.prog.underlying 110).isSome = true := by kernel_rfl
@[simp] theorem Tryz.st110 : tyStr Tryz.prog 110 = false := by kernel_rfl
@[simp] theorem Tryz.in110 : tyInt Tryz.prog 110 = none := by kernel_rfl
@[simp] theorem Tryz.el110 : tyElem Tryz.prog 110 = none := by kernel_rfl
@[simp] theorem Tryz.ar110 : tyArr Tryz.prog 110 = none := by kernel_rfl
@[simp] theorem Tryz.sz111 : tySize Tryz.prog 111 = some 1 := by kernel_rfl
@[simp] theorem Tryz.by111 : tyBytes Tryz.prog 111 = some 8 := by kernel_rfl
@[simp] theorem Tryz.ze111 : tyZero Tryz.prog 111 = some [.nilfn] := by kernel_rfl
@[simp] theorem Tryz.zv111 : tyZeroV Tryz.prog 111 = some (.nilfn) := by kernel_rfl
@[simp] theorem Tryz.ag111 : tyAgg Tryz.prog 111 = some false := by kernel_rfl
@[simp] theorem Tryz.if111 : tyIface Tryz.prog 111 = some false := by kernel_rfl
attribute [simp] Tryz.underlying111
@[simp] theorem Tryz.th111 : (Tryz.prog.underlying 111).isSome = true := by kernel_rfl
@[simp] theorem Tryz.st111 : tyStr Tryz.prog 111 = false := by kernel_rfl
@[simp] theorem Tryz.in111 : tyInt Tryz.prog 111 = none := by kernel_rfl
@[simp] theorem Tryz.el111 : tyElem Tryz.prog 111 = none := by kernel_rfl
@[simp] theorem Tryz.ar111 : tyArr Tryz.prog 111 = none := by kernel_rfl
@[simp] theorem Tryz.sz112 : tySize Tryz.prog 112 = some 1 := by kernel_rfl
@[simp] theorem Tryz.by112 : tyBytes Tryz.prog 112 = some 8 := by kernel_rfl
@[simp] theorem Tryz.ze112 : tyZero Tryz.prog 112 = some [.nilfn] := by kernel_rfl
@[simp] theorem Tryz.zv112 : tyZeroV Tryz.prog 112 = some (.nilfn) := by kernel_rfl
@[simp] theorem Tryz.ag112 : tyAgg Tryz.prog 112 = some false := by kernel_rfl
@[simp] theorem Tryz.if112 : tyIface Tryz.prog 112 = some false := by kernel_rfl
attribute [simp] Tryz.underlying112
@[simp] theorem Tryz.th112 : (Tryz.prog.underlying 112).isSome = true := by kernel_rfl
@[simp] theorem Tryz.st112 : tyStr Tryz.prog 112 = false := by kernel_rfl
@[simp] theorem Tryz.in112 : tyInt Tryz.prog 112 = none := by kernel_rfl
@[simp] theorem Tryz.el112 : tyElem Tryz.prog 112 = none := by kernel_rfl
@[simp] theorem Tryz.ar112 : tyArr Tryz.prog 112 = none := by kernel_rfl
@[simp] theorem Tryz.sz113 : tySize Tryz.prog 113 = some 1 := by kernel_rfl
@[simp] theorem Tryz.by113 : tyBytes Tryz.prog 113 = some 8 := by kernel_rfl
@[simp] theorem Tryz.ze113 : tyZero Tryz.prog 113 = some [.nilfn] := by kernel_rfl
@[simp] theorem Tryz.zv113 : tyZeroV Tryz.prog 113 = some (.nilfn) := by kernel_rfl
@[simp] theorem Tryz.ag113 : tyAgg Tryz.prog 113 = some false := by kernel_rfl
@[simp] theorem Tryz.if113 : tyIface Tryz.prog 113 = some false := by kernel_rfl
attribute [simp] Tryz.underlying113
@[simp] theorem Tryz.th113 : (Tryz.prog.underlying 113).isSome = true := by kernel_rfl
@[simp] theorem Tryz.st113 : tyStr Tryz.prog 113 = false := by kernel_rfl
@[simp] theorem Tryz.in113 : tyInt Tryz.prog 113 = none := by kernel_rfl
@[simp] theorem Tryz.el113 : tyElem Tryz.prog 113 = none := by kernel_rfl
@[simp] theorem Tryz.ar113 : tyArr Tryz.prog 113 = none := by kernel_rfl
@[simp] theorem Tryz.sz114 : tySize Tryz.prog 114 = some 1 := by kernel_rfl
@[simp] theorem Tryz.by114 : tyBytes Tryz.prog 114 = some 8 := by kernel_rfl
@[simp] theorem Tryz.ze114 : tyZero Tryz.prog 114 = some [.nilmap] := by kernel_rfl
@[simp] theorem Tryz.zv114 : tyZeroV Tryz.prog 114 = some (.nilmap) := by kernel_rfl
@[simp] theorem Tryz.mp114 : tyMap Tryz.prog 114 = some (3, 113) := by kernel_rfl
@[simp] theorem Tryz.ag114 : tyAgg Tryz.prog 114 = some false := by kernel_rfl
@[simp] theorem Tryz.if114 : tyIface Tryz.prog 114 = some false := by kernel_rfl
attribute [simp] Tryz.underlying114
@[simp] theorem Tryz.th114 : (Tryz.prog.underlying 114).isSome = true := by kernel_rfl
@[simp] theorem Tryz.st114 : tyStr Tryz.prog 114 = false := by kernel_rfl
@[simp] theorem Tryz.in114 : tyInt Tryz.prog 114 = none := by kernel_rfl
@[simp] theorem Tryz.el114 : tyElem Tryz.prog 114 = none := by kernel_rfl
@[simp] theorem Tryz.ar114 : tyArr Tryz.prog 114 = none := by kernel_rfl
@[simp] theorem Tryz.sz115 : tySize Tryz.prog 115 = some 1 := by kernel_rfl
@[simp] theorem Tryz.by115 : tyBytes Tryz.prog 115 = some 8 := by kernel_rfl
@[simp] theorem Tryz.ze115 : tyZero Tryz.prog 115 = some [.nilfn] := by kernel_rfl
@[simp] theorem Tryz.zv115 : tyZeroV Tryz.prog 115 = some (.nilfn) := by kernel_rfl
@[simp] theorem Tryz.ag115 : tyAgg Tryz.prog 115 = some false := by kernel_rfl
@[simp] theorem Tryz.if115 : tyIface Tryz.prog 115 = some false := by kernel_rfl
attribute [simp] Tryz.underlying115
@[simp] theorem Tryz.th115 : (Tryz.prog.underlying 115).isSome = true := by kernel_rfl
@[simp] theorem Tryz.st115 : tyStr Tryz.prog 115 = false := by kernel_rfl
@[simp] theorem Tryz.in115 : tyInt Tryz.prog 115 = none := by kernel_rfl
@[simp] theorem Tryz.el115 : tyElem Tryz.prog 115 = none := by kernel_rfl
@[simp] theorem Tryz.ar115 : tyArr Tryz.prog 115 = none := by kernel_rfl
@[simp] theorem Tryz.sz116 : tySize Tryz.prog 116 = some 1 := by kernel_rfl
@[simp] theorem Tryz.by116 : tyBytes Tryz.prog 116 = some 8 := by kernel_rfl
@[simp] theorem Tryz.ze116 : tyZero Tryz.prog 116 = some [.nilfn] := by kernel_rfl
@[simp] theorem Tryz.zv116 : tyZeroV Tryz.prog 116 = some (.nilfn) := by kernel_rfl
@[simp] theorem Tryz.ag116 : tyAgg Tryz.prog 116 = some false := by kernel_rfl
@[simp] theorem Tryz.if116 : tyIface Tryz.prog 116 = some false := by kernel_rfl
attribute [simp] Tryz.underlying116
@[simp] theorem Tryz.th116 : (Tryz.prog.underlying 116).isSome = true := by kernel_rfl
@[simp] theorem Tryz.st116 : tyStr Tryz.prog 116 = false := by kernel_rfl
@[simp] theorem Tryz.in116 : tyInt Tryz.prog 116 = none := by kernel_rfl
@[simp] theorem Tryz.el116 : tyElem Tryz.prog 116 = none := by kernel_rfl
@[simp] theorem Tryz.ar116 : tyArr Tryz.prog 116 = none := by kernel_rfl
@[simp] theorem Tryz.sz117 : tySize Tryz.prog 117 = some 1 := by kernel_rfl
@[simp] theorem Tryz.by117 : tyBytes Tryz.prog 117 = some 8 := by kernel_rfl
@[simp] theorem Tryz.ze117 : tyZero Tryz.prog 117 = some [.nilfn] := by kernel_rfl
@[simp] theorem Tryz.zv117 : tyZeroV Tryz.prog 117 = some (.nilfn) := by kernel_rfl
@[simp] theorem Tryz.ag117 : tyAgg Tryz.prog 117 = some false := by kernel_rfl
@[simp] theorem Tryz.if117 : tyIface Tryz.prog 117 = some false := by kernel_rfl
attribute [simp] Tryz.underlying117
@[simp] theorem Tryz.th117 : (Tryz.prog.underlying 117).isSome = true := by kernel_rfl
@[simp] theorem Tryz.st117 : tyStr Tryz.prog 117 = false := by kernel_rfl
@[simp] theorem Tryz.in117 : tyInt Tryz.prog 117 = none := by kernel_rfl
@[simp] theorem Tryz.el117 : tyElem Tryz.prog 117 = none := by kernel_rfl
@[simp] theorem Tryz.ar117 : tyArr Tryz.prog 117 = none := by kernel_rfl
@[simp] theorem Tryz.sz119 : tySize Tryz.prog 119 = some 1 := by kernel_rfl
@[simp] theorem Tryz.by119 : tyBytes Tryz.prog 119 = some 8 := by kernel_rfl
@[simp] theorem Tryz.ze119 : tyZero Tryz.prog 119 = some [.nilfn] := by kernel_rfl
@[simp] theorem Tryz.zv119 : tyZeroV Tryz.prog 119 = some (.nilfn) := by kernel_rfl
@[simp] theorem Tryz.ag119 : tyAgg Tryz.prog 119 = some false := by kernel_rfl
@[simp] theorem Tryz.if119 : tyIface Tryz.prog 119 = some false := by kernel_rfl
attribute [simp] Tryz.underlying119
@[simp] theorem Tryz.th119 : (Tryz.prog.underlying 119).isSome = true := by kernel_rfl
@[simp] theorem Tryz.st119 : tyStr Tryz.prog 119 = false := by kernel_rfl
@[simp] theorem Tryz.in119 : tyInt Tryz.prog 119 = none := by kernel_rfl
@[simp] theorem Tryz.el119 : tyElem Tryz.prog 119 = none := by kernel_rfl
@[simp] theorem Tryz.ar119 : tyArr Tryz.prog 119 = none := by kernel_rfl
@[simp] theorem Tryz.sz120 : tySize Tryz.prog 120 = some 1 := by kernel_rfl
@[simp] theorem Tryz.by120 : tyBytes Tryz.prog 120 = some 16 := by kernel_rfl
@[simp] theorem Tryz.ze120 : tyZero Tryz.prog 120 = some [.nilifc] := by kernel_rfl
@[simp] theorem Tryz.zv120 : tyZeroV Tryz.prog 120 = some (.nilifc) := by kernel_rfl
@[simp] theorem Tryz.ag120 : tyAgg Tryz.prog 120 = some false := by kernel_rfl
@[simp] theorem Tryz.if120 : tyIface Tryz.prog 120 = some true := by kernel_rfl
attribute [simp] Tryz.underlying120
@[simp] theorem Tryz.th120 : (Tryz.prog.underlying 120).isSome = true := by kernel_rfl
@[simp] theorem Tryz.st120 : tyStr Tryz.prog 120 = false := by kernel_rfl
@[simp] theorem Tryz.in120 : tyInt Tryz.prog 120 = none := by kernel_rfl
@[simp] theorem Tryz.el120 : tyElem Tryz.prog 120 = none := by kernel_rfl
@[simp] theorem Tryz.ar120 : tyArr Tryz.prog 120 = none := by kernel_rfl
@[simp] theorem Tryz.sz121 : tySize Tryz.prog 121 = some 1 := by kernel_rfl
@[simp] theorem Tryz.by121 : tyBytes Tryz.prog 121 = some 16 := by kernel_rfl
@[simp] theorem Tryz.ze121 : tyZero Tryz.prog 121 = some [.nilifc] := by kernel_rfl
@[simp] theorem Tryz.zv121 : tyZeroV Tryz.prog 121 = some (.nilifc) := by kernel_rfl
@[simp] theorem Tryz.ag121 : tyAgg Tryz.prog 121 = some false := by kernel_rfl
@[simp] theorem Tryz.if121 : tyIface Tryz.prog 121 = some true := by kernel_rfl
attribute [simp] Tryz.underlying121
@[simp] theorem Tryz.th121 : (Tryz.prog.underlying 121).isSome = true := by kernel_rfl
@[simp] theorem Tryz.st121 : tyStr Tryz.prog 121 = false := by kernel_rfl
@[simp] theorem Tryz.in121 : tyInt Tryz.prog 121 = none := by kernel_rfl
@[simp] theorem Tryz.el121 : tyElem Tryz.prog 121 = none := by kernel_rfl
@[simp] theorem Tryz.ar121 : tyArr Tryz.prog 121 = none := by kernel_rfl
@[simp] theorem Tryz.sz123 : tySize Tryz.prog 123 = some 1 := by kernel_rfl
@[simp] theorem Tryz.by123 : tyBytes Tryz.prog 123 = some 8 := by kernel_rfl
@[simp] theorem Tryz.ze123 : tyZero Tryz.prog 123 = some [.nilfn] := by kernel_rfl
@[simp] theorem Tryz.zv123 : tyZeroV Tryz.prog 123 = some (.nilfn) := by kernel_rfl
@[simp] theorem Tryz.ag123 : tyAgg Tryz.prog 123 = some false := by kernel_rfl
@[simp] theorem Tryz.if123 : tyIface Tryz.prog 123 = some false := by kernel_rfl
attribute [simp] Tryz.underlying123
@[simp] theorem Tryz.th123 : (Tryz.prog.underlying 123).isSome = true := by kernel_rfl
@[simp] theorem Tryz.st123 : tyStr Tryz.prog 123 = false := by kernel_rfl
@[simp] theorem Tryz.in123 : tyInt Tryz.prog 123 = none := by kernel_rfl
@[simp] theorem Tryz.el123 : tyElem Tryz.prog 123 = none := by kernel_rfl
@[simp] theorem Tryz.ar123 : tyArr Tryz.prog 123 = none := by kernel_rfl
@[simp] theorem Tryz.sz124 : tySize Tryz.prog 124 = some 1 := by kernel_rfl
@[simp] theorem Tryz.by124 : tyBytes Tryz.prog 124 = some 8 := by kernel_rfl
@[simp] theorem Tryz.ze124 : tyZero Tryz.prog 124 = some [.nilptr] := by kernel_rfl
@[simp] theorem Tryz.zv124 : tyZeroV Tryz.prog 124 = some (.nilptr) := by kernel_rfl
@[simp] theorem Tryz.ag124 : tyAgg Tryz.prog 124 = some false := by kernel_rfl
@[simp] theorem Tryz.if124 : tyIface Tryz.prog 124 = some false := by kernel_rfl
attribute [simp] Tryz.underlying124
@[simp] theorem Tryz.th124 : (Tryz.prog.underlying 124).isSome = true := by kernel_rfl
@[simp] theorem Tryz.st124 : tyStr Tryz.prog 124 = false := by kernel_rfl
@[simp] theorem Tryz.in124 : tyInt Tryz.prog 124 = none := by kernel_rfl
@[simp] theorem Tryz.el124 : tyElem Tryz.prog 124 = none := by kernel_rfl
@[simp] theorem Tryz.ar124 : tyArr Tryz.prog 124 = none := by kernel_rfl
@[simp] theorem Tryz.sz125 : tySize Tryz.prog 125 = some 1 := by kernel_rfl
@[simp] theorem Tryz.by125 : tyBytes Tryz.prog 125 = some 8 := by kernel_rfl
@[simp] theorem Tryz.ze125 : tyZero Tryz.prog 125 = some [.nilfn] := by kernel_rfl
@[simp] theorem Tryz.zv125 : tyZeroV Tryz.prog 125 = some (.nilfn) := by kernel_rfl
@[simp] theorem Tryz.ag125 : tyAgg Tryz.prog 125 = some false := by kernel_rfl
@[simp] theorem Tryz.if125 : tyIface Tryz.prog 125 = some false := by kernel_rfl
attribute [simp] Tryz.underlying125
@[simp] theorem Tryz.th125 : (Tryz.prog.underlying 125).isSome = true := by kernel_rfl
@[simp] theorem Tryz.st125 : tyStr Tryz.prog 125 = false := by kernel_rfl
@[simp] theorem Tryz.in125 : tyInt Tryz.prog 125 = none := by kernel_rfl
@[simp] theorem Tryz.el125 : tyElem Tryz.prog 125 = none := by kernel_rfl
@[simp] theorem Tryz.ar125 : tyArr Tryz.prog 125 = none := by kernel_rfl
@[simp] theorem Tryz.sz126 : tySize Tryz.prog 126 = some 1 := by kernel_rfl
@[simp] theorem Tryz.by126 : tyBytes Tryz.prog 126 = some 8 := by kernel_rfl
@[simp] theorem Tryz.ze126 : tyZero Tryz.prog 126 = some [.nilmap] := by kernel_rfl
@[simp] theorem Tryz.zv126 : tyZeroV Tryz.prog 126 = some (.nilmap) := by kernel_rfl
@[simp] theorem Tryz.mp126 : tyMap Tryz.prog 126 = some (3, 125) := by kernel_rfl
@[simp] theorem Tryz.ag126 : tyAgg Tryz.prog 126 = some false := by kernel_rfl
@[simp] theorem Tryz.if126 : tyIface Tryz.prog 126 = some false := by kernel_rfl
attribute [simp] Tryz.underlying126
@[simp] theorem Tryz.th126 : (Tryz.prog.underlying 126).isSome = true := by kernel_rfl
@[simp] theorem Tryz.st126 : tyStr Tryz.prog 126 = false := by kernel_rfl
@[simp] theorem Tryz.in126 : tyInt Tryz.prog 126 = none := by kernel_rfl
@[simp] theorem Tryz.el126 : tyElem Tryz.prog 126 = none := by kernel_rfl
@[simp] theorem Tryz.ar126 : tyArr Tryz.prog 126 = none := by kernel_rfl
@[simp] theorem Tryz.sz127 : tySize Tryz.prog 127 = some 1 := by kernel_rfl
@[simp] theorem Tryz.by127 : tyBytes Tryz.prog 127 = some 8 := by kernel_rfl
@[simp] theorem Tryz.ze127 : tyZero Tryz.prog 127 = some [.nilfn] := by kernel_rfl
@[simp] theorem Tryz.zv127 : tyZeroV Tryz.prog 127 = some (.nilfn) := by kernel_rfl
@[simp] theorem Tryz.ag127 : tyAgg Tryz.prog 127 = some false := by kernel_rfl
@[simp] theorem Tryz.if127 : tyIface Tryz.prog 127 = some false := by kernel_rfl
attribute [simp] Tryz.underlying127
@[simp] theorem Tryz.th127 : (Tryz.prog.underlying 127).isSome = true := by kernel_rfl
@[simp] theorem Tryz.st127 : tyStr Tryz.prog 127 = false := by kernel_rfl
@[simp] theorem Tryz.in127 : tyInt Tryz.prog 127 = none := by kernel_rfl
@[simp] theorem Tryz.el127 : tyElem Tryz.prog 127 = none := by kernel_rfl
@[simp] theorem Tryz.ar127 : tyArr Tryz.prog 127 = none := by kernel_rfl
@[simp] theorem Tryz.sz128 : tySize Tryz.prog 128 = some 1 := by kernel_rfl
@[simp] theorem Tryz.by128 : tyBytes Tryz.prog 128 = some 8 := by kernel_rfl
@[simp] theorem Tryz.ze128 : tyZero Tryz.prog 128 = some [.nilfn] := by kernel_rfl
@[simp] theorem Tryz.zv128 : tyZeroV Tryz.prog 128 = some (.nilfn) := by kernel_rfl
@[simp] theorem Tryz.ag128 : tyAgg Tryz.prog 128 = some false := by kernel_rfl
@[simp] theorem Tryz.if128 : tyIface Tryz.prog 128 = some false := by kernel_rfl
attribute [simp] Tryz.underlying128
@[simp] theorem Tryz.th128 : (Tryz.prog.underlying 128).isSome = true := by kernel_rfl
@[simp] theorem Tryz.st128 : tyStr Tryz.prog 128 = false := by kernel_rfl
@[simp] theorem Tryz.in128 : tyInt Tryz.prog 128 = none := by kernel_rfl
@[simp] theorem Tryz.el128 : tyElem Tryz.prog 128 = none := by kernel_rfl
@[simp] theorem Tryz.ar128 : tyArr Tryz.prog 128 = none := by kernel_rfl
@[simp] theorem Tryz.sz129 : tySize Tryz.prog 129 = some 1 := by kernel_rfl
@[simp] theorem Tryz.by129 : tyBytes Tryz.prog 129 = some 8 := by kernel_rfl
@[simp] theorem Tryz.ze129 : tyZero Tryz.prog 129 = some [.nilfn] := by kernel_rfl
@[simp] theorem Tryz.zv129 : tyZeroV Tryz.prog 129 = some (.nilfn) := by kernel_rfl
@[simp] theorem Tryz.ag129 : tyAgg Tryz.prog 129 = some false := by kernel_rfl
@[simp] theorem Tryz.if129 : tyIface Tryz.prog 129 = some false := by kernel_rfl
attribute [simp] Tryz.underlying129
@[simp] theorem Tryz.th129 : (Tryz.prog.underlying 129).isSome = true := by kernel_rfl
@[simp] theorem Tryz.st129 : tyStr Tryz.prog 129 = false := by kernel_rfl
@[simp] theorem Tryz.in129 : tyInt Tryz.prog 129 = none := by kernel_rfl
@[simp] theorem Tryz.el129 : tyElem Tryz.prog 129 = none := by kernel_rfl
@[simp] theorem Tryz.ar129 : tyArr Tryz.prog 129 = none := by kernel_rfl
@[simp] theorem Tryz.sz130 : tySize Tryz.prog 130 = some 1 := by kernel_rfl
@[simp] theorem Tryz.by130 : tyBytes Tryz.prog 130 = some 8 := by kernel_rfl
@[simp] theorem Tryz.ze130 : tyZero Tryz.prog 130 = some [.nilfn] := by kernel_rfl
@[simp] theorem Tryz.zv130 : tyZeroV Tryz.prog 130 = some (.nilfn) := by kernel_rfl
@[simp] theorem Tryz.ag130 : tyAgg Tryz.prog 130 = some false := by kernel_rfl
@[simp] theorem Tryz.if130 : tyIface Tryz.prog 130 = some false := by kernel_rfl
attribute [simp] Tryz.underlying130
@[simp] theorem Tryz.th130 : (Tryz.prog.underlying 130).isSome = true := by kernel_rfl
@[simp] theorem Tryz.st130 : tyStr Tryz.prog 130 = false := by kernel_rfl
@[simp] theorem Tryz.in130 : tyInt Tryz.prog 130 = none := by kernel_rfl
@[simp] theorem Tryz.el130 : tyElem Tryz.prog 130 = none := by kernel_rfl
@[simp] theorem Tryz.ar130 : tyArr Tryz.prog 130 = none := by kernel_rfl
@[simp] theorem Tryz.sz131 : tySize Tryz.prog 131 = some 1 := by kernel_rfl
@[simp] theorem Tryz.by131 : tyBytes Tryz.prog 131 = some 8 := by kernel_rfl
@[simp] theorem Tryz.ze131 : tyZero Tryz.prog 131 = some [.nilfn] := by kernel_rfl
@[simp] theorem Tryz.zv131 : tyZeroV Tryz.prog 131 = some (.nilfn) := by kernel_rfl
@[simp] theorem Tryz.ag131 : tyAgg Tryz.prog 131 = some false := by kernel_rfl
@[simp] theorem Tryz.if131 : tyIface Tryz.prog 131 = some false := by kernel_rfl
attribute [simp] Tryz.underlying131
@[simp] theorem Tryz.th131 : (Tryz.prog.underlying 131).isSome = true := by kernel_rfl
@[simp] theorem Tryz.st131 : tyStr Tryz.prog 131 = false := by kernel_rfl
@[simp] theorem Tryz.in131 : tyInt Tryz.prog 131 = none := by kernel_rfl
@[simp] theorem Tryz.el131 : tyElem Tryz.prog 131 = none := by kernel_rfl
@[simp] theorem Tryz.ar131 : tyArr Tryz.prog 131 = none := by kernel_rfl
@[simp] theorem Tryz.sz132 : tySize Tryz.prog 132 = some 1 := by kernel_rfl
@[simp] theorem Tryz.by132 : tyBytes Tryz.prog 132 = some 8 := by kernel_rfl
@[simp] theorem Tryz.ze132 : tyZero Tryz.prog 132 = some [.int .i64 0] := by kernel_rfl
@[simp] theorem Tryz.zv132 : tyZeroV Tryz.prog 132 = some (.int .i64 0) := by kernel_rfl
@[simp] theorem Tryz.ag132 : tyAgg Tryz.prog 132 = some false := by kernel_rfl
@[simp] theorem Tryz.if132 : tyIface Tryz.prog 132 = some false := by kernel_rfl
attribute [simp] Tryz.underlying132
@[simp] theorem Tryz.th132 : (Tryz.prog.underlying 132).isSome = true := by kernel_rfl
@[simp] theorem Tryz.st132 : tyStr Tryz.prog 132 = false := by kernel_rfl
@[simp] theorem Tryz.in132 : tyInt Tryz.prog 132 = some .i64 := by kernel_rfl
@[simp] theorem Tryz.el132 : tyElem Tryz.prog 132 = none := by kernel_rfl
@[simp] theorem Tryz.ar132 : tyArr Tryz.prog 132 = none := by kernel_rfl
@[simp] theorem Tryz.sz133 : tySize Tryz.prog 133 = some 1 := by kernel_rfl
@[simp] theorem Tryz.by133 : tyBytes Tryz.prog 133 = some 8 := by kernel_rfl
@[simp] theorem Tryz.ze133 : tyZero Tryz.prog 133 = some [.nilfn] := by kernel_rfl
@[simp] theorem Tryz.zv133 : tyZeroV Tryz.prog 133 = some (.nilfn) := by kernel_rfl
@[simp] theorem Tryz.ag133 : tyAgg Tryz.prog 133 = some false := by kernel_rfl
@[simp] theorem Tryz.if133 : tyIface Tryz.prog 133 = some false := by kernel_rfl
attribute [simp] Tryz.underlying133
@[simp] theorem Tryz.th133 : (Tryz.prog.underlying 133).isSome = true := by kernel_rfl
@[simp] theorem Tryz.st133 : tyStr Tryz.prog 133 = false := by kernel_rfl
@[simp] theorem Tryz.in133 : tyInt Tryz.prog 133 = none := by kernel_rfl
@[simp] theorem Tryz.el133 : tyElem Tryz.prog 133 = none := by kernel_rfl
@[simp] theorem Tryz.ar133 : tyArr Tryz.prog 133 = none := by kernel_rfl
@[simp] theorem Tryz.sz134 : tySize Tryz.prog 134 = some 1 := by kernel_rfl
@[simp] theorem Tryz.by134 : tyBytes Tryz.prog 134 = some 8 := by kernel_rfl
@[simp] theorem Tryz.ze134 : tyZero Tryz.prog 134 = some [.nilfn] := by kernel_rfl
@[simp] theorem Tryz.zv134 : tyZeroV Tryz.prog 134 = some (.nilfn) := by kernel_rfl
@[simp] theorem Tryz.ag134 : tyAgg Tryz.prog 134 = some false := by kernel_rfl
@[simp] theorem Tryz.if134 : tyIface Tryz.prog 134 = some false := by kernel_rfl
attribute [simp] Tryz.underlying134
@[simp] theorem Tryz.th134 : (Tryz.prog.underlying 134).isSome = true := by kernel_rfl
@[simp] theorem Tryz.st134 : tyStr Tryz.prog 134 = false := by kernel_rfl
@[simp] theorem Tryz.in134 : tyInt Tryz.prog 134 = none := by kernel_rfl
@[simp] theorem Tryz.el134 : tyElem Tryz.prog 134 = none := by kernel_rfl
@[simp] theorem Tryz.ar134 : tyArr Tryz.prog 134 = none := by kernel_rfl
@[simp] theorem Tryz.sz135 : tySize Tryz.prog 135 = some 1 := by kernel_rfl
@[simp] theorem Tryz.by135 : tyBytes Tryz.prog 135 = some 8 := by kernel_rfl
@[simp] theorem Tryz.ze135 : tyZero Tryz.prog 135 = some [.nilfn] := by kernel_rfl
@[simp] theorem Tryz.zv135 : tyZeroV Tryz.prog 135 = some (.nilfn) := by kernel_rfl
@[simp] theorem Tryz.ag135 : tyAgg Tryz.prog 135 = some false := by kernel_rfl
@[simp] theorem Tryz.if135 : tyIface Tryz.prog 135 = some false := by kernel_rfl
attribute [simp] Tryz.underlying135
@[simp] theorem Tryz.th135 : (Tryz.prog.underlying 135).isSome = true := by kernel_rfl
@[simp] theorem Tryz.st135 : tyStr Tryz.prog 135 = false := by kernel_rfl
@[simp] theorem Tryz.in135 : tyInt Tryz.prog 135 = none := by kernel_rfl
@[simp] theorem Tryz.el135 : tyElem Tryz.prog 135 = none := by kernel_rfl
@[simp] theorem Tryz.ar135 : tyArr Tryz.prog 135 = none := by kernel_rfl
@[simp] theorem Tryz.sz136 : tySize Tryz.prog 136 = some 1 := by kernel_rfl
@[simp] theorem Tryz.by136 : tyBytes Tryz.prog 136 = some 24 := by kernel_rfl
@[simp] theorem Tryz.ze136 : tyZero Tryz.prog 136 = some [.sl 0 [] .nil] := by kernel_rfl
@[simp] theorem Tryz.zv136 : tyZeroV Tryz.prog 136 = some (.sl 0 [] .nil) := by kernel_rfl
@[simp] theorem Tryz.ag136 : tyAgg Tryz.prog 136 = some false := by kernel_rfl
@[simp] theorem Tryz.if136 : tyIface Tryz.prog 136 = some false := by kernel_rfl
@[simp] theorem Tryz.th136 : (Tryz.prog.underlying 136).isSome = true := by kernel_rfl
@[simp] theorem Tryz.st136 : tyStr Tryz.prog 136 = false := by kernel_rfl
@[simp] theorem Tryz.in136 : tyInt Tryz.prog 136 = none := by kernel_rfl
@[simp] theorem Tryz.el136 : tyElem Tryz.prog 136 = some 9 := by kernel_rfl
@[simp] theorem Tryz.ar136 : tyArr Tryz.prog 136 = none := by kernel_rfl
@[simp] theorem Tryz.sz137 : tySize Tryz.prog 137 = some 1 := by kernel_rfl
@[simp] theorem Tryz.by137 : tyBytes Tryz.prog 137 = some 8 := by kernel_rfl
@[simp] theorem Tryz.ze137 : tyZero Tryz.prog 137 = some [.nilfn] := by kernel_rfl
@[simp] theorem Tryz.zv137 : tyZeroV Tryz.prog 137 = some (.nilfn) := by kernel_rfl
@[simp] theorem Tryz.ag137 : tyAgg Tryz.prog 137 = some false := by kernel_rfl
@[simp] theorem Tryz.if137 : tyIface Tryz.prog 137 = some false := by kernel_rfl
attribute [simp] Tryz.underlying137
@[simp] theorem Tryz.th137 : (Tryz.prog.underlying 137).isSome = true := by kernel_rfl
@[simp] theorem Tryz.st137 : tyStr Tryz.prog 137 = false := by kernel_rfl
@[simp] theorem Tryz.in137 : tyInt Tryz.prog 137 = none := by kernel_rfl
@[simp] theorem Tryz.el137 : tyElem Tryz.prog 137 = none := by kernel_rfl
@[simp] theorem Tryz.ar137 : tyArr Tryz.prog 137 = none := by kernel_rfl
@[simp] theorem Tryz.sz138 : tySize Tryz.prog 138 = some 1 := by kernel_rfl
@[simp] theorem Tryz.by138 : tyBytes Tryz.prog 138 = some 8 := by kernel_rfl
@[simp] theorem Tryz.ze138 : tyZero Tryz.prog 138 = some [.nilfn] := by kernel_rfl
@[simp] theorem Tryz.zv138 : tyZeroV Tryz.prog 138 = some (.nilfn) := by kernel_rfl
@[simp] theorem Tryz.ag138 : tyAgg Tryz.prog 138 = some false := by kernel_rfl
@[simp] theorem Tryz.if138 : tyIface Tryz.prog 138 = some false := by kernel_rfl
attribute [simp] Tryz.underlying138
@[simp] theorem Tryz.th138 : (Tryz.prog.underlying 138).isSome = true := by kernel_rfl
@[simp] theorem Tryz.st138 : tyStr Tryz.prog 138 = false := by kernel_rfl
@[simp] theorem Tryz.in138 : tyInt Tryz.prog 138 = none := by kernel_rfl
@[simp] theorem Tryz.el138 : tyElem Tryz.prog 138 = none := by kernel_rfl
@[simp] theorem Tryz.ar138 : tyArr Tryz.prog 138 = none := by kernel_rfl
@[simp] theorem Tryz.sz139 : tySize Tryz.prog 139 = some 1 := by kernel_rfl
@[simp] theorem Tryz.by139 : tyBytes Tryz.prog 139 = some 8 := by kernel_rfl
@[simp] theorem Tryz.ze139 : tyZero Tryz.prog 139 = some [.nilfn] := by kernel_rfl
@[simp] theorem Tryz.zv139 : tyZeroV Tryz.prog 139 = some (.nilfn) := by kernel_rfl
@[simp] theorem Tryz.ag139 : tyAgg Tryz.prog 139 = some false := by kernel_rfl
@[simp] theorem Tryz.if139 : tyIface Tryz.prog 139 = some false := by kernel_rfl
attribute [simp] Tryz.underlying139
@[simp] theorem Tryz.th139 : (Tryz.prog.underlying 139).isSome = true := by kernel_rfl
@[simp] theorem Tryz.st139 : tyStr Tryz.prog 139 = false := by kernel_rfl
@[simp] theorem Tryz.in139 : tyInt Tryz.prog 139 = none := by kernel_rfl
@[simp] theorem Tryz.el139 : tyElem Tryz.prog 139 = none := by kernel_rfl
@[simp] theorem Tryz.ar139 : tyArr Tryz.prog 139 = none := by kernel_rfl
@[simp] theorem Tryz.sz140 : tySize Tryz.prog 140 = some 1 := by kernel_rfl
@[simp] theorem Tryz.by140 : tyBytes Tryz.prog 140 = some 8 := by kernel_rfl
@[simp] theorem Tryz.ze140 : tyZero Tryz.prog 140 = some [.nilfn] := by kernel_rfl
@[simp] theorem Tryz.zv140 : tyZeroV Tryz.prog 140 = some (.nilfn) := by kernel_rfl
@[simp] theorem Tryz.ag140 : tyAgg Tryz.prog 140 = some false := by kernel_rfl
@[simp] theorem Tryz.if140 : tyIface Tryz.prog 140 = some false := by kernel_rfl
attribute [simp] Tryz.underlying140
@[simp] theorem Tryz.th140 : (Tryz.prog.underlying 140).isSome = true := by kernel_rfl
@[simp] theorem Tryz.st140 : tyStr Tryz.prog 140 = false := by kernel_rfl
@[simp] theorem Tryz.in140 : tyInt Tryz.prog 140 = none := by kernel_rfl
@[simp] theorem Tryz.el140 : tyElem Tryz.prog 140 = none := by kernel_rfl
@[simp] theorem Tryz.ar140 : tyArr Tryz.prog 140 = none := by kernel_rfl
@[simp] theorem Tryz.sz141 : tySize Tryz.prog 141 = some 1 := by kernel_rfl
@[simp] theorem Tryz.by141 : tyBytes Tryz.prog 141 = some 8 := by kernel_rfl
@[simp] theorem Tryz.ze141 : tyZero Tryz.prog 141 = some [.nilfn] := by kernel_rfl
@[simp] theorem Tryz.zv141 : tyZeroV Tryz.prog 141 = some (.nilfn) := by kernel_rfl
@[simp] theorem Tryz.ag141 : tyAgg Tryz.prog 141 = some false := by kernel_rfl
@[simp] theorem Tryz.if141 : tyIface Tryz.prog 141 = some false := by kernel_rfl
attribute [simp] Tryz.underlying141
@[simp] theorem Tryz.th141 : (Tryz.prog.underlying 141).isSome = true := by kernel_rfl
@[simp] theorem Tryz.st141 : tyStr Tryz.prog 141 = false := by kernel_rfl
@[simp] theorem Tryz.in141 : tyInt Tryz.prog 141 = none := by kernel_rfl
@[simp] theorem Tryz.el141 : tyElem Tryz.prog 141 = none := by kernel_rfl
@[simp] theorem Tryz.ar141 : tyArr Tryz.prog 141 = none := by kernel_rfl
@[simp] theorem Tryz.sz142 : tySize Tryz.prog 142 = some 1 := by kernel_rfl
@[simp] theorem Tryz.by142 : tyBytes Tryz.prog 142 = some 8 := by kernel_rfl
@[simp] theorem Tryz.ze142 : tyZero Tryz.prog 142 = some [.nilfn] := by kernel_rfl
@[simp] theorem Tryz.zv142 : tyZeroV Tryz.prog 142 = some (.nilfn) := by kernel_rfl
@[simp] theorem Tryz.ag142 : tyAgg Tryz.prog 142 = some false := by kernel_rfl
@[simp] theorem Tryz.if142 : tyIface Tryz.prog 142 = some false := by kernel_rfl
attribute [simp] Tryz.underlying142
@[simp] theorem Tryz.th142 : (Tryz.prog.underlying 142).isSome = true := by kernel_rfl
@[simp] theorem Tryz.st142 : tyStr Tryz.prog 142 = false := by kernel_rfl
@[simp] theorem Tryz.in142 : tyInt Tryz.prog 142 = none := by kernel_rfl
@[simp] theorem Tryz.el142 : tyElem Tryz.prog 142 = none := by kernel_rfl
@[simp] theorem Tryz.ar142 : tyArr Tryz.prog 142 = none := by kernel_rfl
@[simp] theorem Tryz.sz143 : tySize Tryz.prog 143 = some 1 := by kernel_rfl
@[simp] theorem Tryz.by143 : tyBytes Tryz.prog 143 = some 8 := by kernel_rfl
@[simp] theorem Tryz.ze143 : tyZero Tryz.prog 143 = some [.nilfn] := by kernel_rfl
@[simp] theorem Tryz.zv143 : tyZeroV Tryz.prog 143 = some (.nilfn) := by kernel_rfl
@[simp] theorem Tryz.ag143 : tyAgg Tryz.prog 143 = some false := by kernel_rfl
@[simp] theorem Tryz.if143 : tyIface Tryz.prog 143 = some false := by kernel_rfl
attribute [simp] Tryz.underlying143
@[simp] theorem Tryz.th143 : (Tryz.prog.underlying 143).isSome = true := by kernel_rfl
@[simp] theorem Tryz.st143 : tyStr Tryz.prog 143 = false := by kernel_rfl
@[simp] theorem Tryz.in143 : tyInt Tryz.prog 143 = none := by kernel_rfl
@[simp] theorem Tryz.el143 : tyElem Tryz.prog 143 = none := by kernel_rfl
@[simp] theorem Tryz.ar143 : tyArr Tryz.prog 143 = none := by kernel_rfl
@[simp] theorem Tryz.sz144 : tySize Tryz.prog 144 = some 1 := by kernel_rfl
@[simp] theorem Tryz.by144 : tyBytes Tryz.prog 144 = some 8 := by kernel_rfl
@[simp] theorem Tryz.ze144 : tyZero Tryz.prog 144 = some [.nilfn] := by kernel_rfl
@[simp] theorem Tryz.zv144 : tyZeroV Tryz.prog 144 = some (.nilfn) := by kernel_rfl
@[simp] theorem Tryz.ag144 : tyAgg Tryz.prog 144 = some false := by kernel_rfl
@[simp] theorem Tryz.if144 : tyIface Tryz.prog 144 = some false := by kernel_rfl
attribute [simp] Tryz.underlying144
@[simp] theorem Tryz.th144 : (Tryz.prog.underlying 144).isSome = true := by kernel_rfl
@[simp] theorem Tryz.st144 : tyStr Tryz.prog 144 = false := by kernel_rfl
@[simp] theorem Tryz.in144 : tyInt Tryz.prog 144 = none := by kernel_rfl
@[simp] theorem Tryz.el144 : tyElem Tryz.prog 144 = none := by kernel_rfl
@[simp] theorem Tryz.ar144 : tyArr Tryz.prog 144 = none := by kernel_rfl
@[simp] theorem Tryz.sz145 : tySize Tryz.prog 145 = some 1 := by kernel_rfl
@[simp] theorem Tryz.by145 : tyBytes Tryz.prog 145 = some 8 := by kernel_rfl
@[simp] theorem Tryz.ze145 : tyZero Tryz.prog 145 = some [.nilfn] := by kernel_rfl
@[simp] theorem Tryz.zv145 : tyZeroV Tryz.prog 145 = some (.nilfn) := by kernel_rfl
@[simp] theorem Tryz.ag145 : tyAgg Tryz.prog 145 = some false := by kernel_rfl
@[simp] theorem Tryz.if145 : tyIface Tryz.prog 145 = some false := by kernel_rfl
attribute [simp] Tryz.underlying145
@[simp] theorem Tryz.th145 : (Tryz.prog.underlying 145).isSome = true := by kernel_rfl
@[simp] theorem Tryz.st145 : tyStr Tryz.prog 145 = false := by kernel_rfl
@[simp] theorem Tryz.in145 : tyInt Tryz.prog 145 = none := by kernel_rfl
@[simp] theorem Tryz.el145 : tyElem Tryz.prog 145 = none := by kernel_rfl
@[simp] theorem Tryz.ar145 : tyArr Tryz.prog 145 = none := by kernel_rfl
@[simp] theorem Tryz.sz150 : tySize Tryz.prog 150 = some 1 := by kernel_rfl
@[simp] theorem Tryz.by150 : tyBytes Tryz.prog 150 = some 8 := by kernel_rfl
@[simp] theorem Tryz.ze150 : tyZero Tryz.prog 150 = some [.nilfn] := by kernel_rfl
@[simp] theorem Tryz.zv150 : tyZeroV Tryz.prog 150 = some (.nilfn) := by kernel_rfl
@[simp] theorem Tryz.ag150 : tyAgg Tryz.prog 150 = some false := by kernel_rfl
@[simp] theorem Tryz.if150 : tyIface Tryz.prog 150 = some false := by kernel_rfl
attribute [simp] Tryz.underlying150
@[simp] theorem Tryz.th150 : (Tryz.prog.underlying 150).isSome = true := by kernel_rfl
@[simp] theorem Tryz.st150 : tyStr Tryz.prog 150 = false := by kernel_rfl
@[simp] theorem Tryz.in150 : tyInt Tryz.prog 150 = none := by kernel_rfl
@[simp] theorem Tryz.el150 : tyElem Tryz.prog 150 = none := by kernel_rfl
@[simp] theorem Tryz.ar150 : tyArr Tryz.prog 150 = none := by kernel_rfl
@[simp] theorem Tryz.sz153 : tySize Tryz.prog 153 = some 1 := by kernel_rfl
@[simp] theorem Tryz.by153 : tyBytes Tryz.prog 153 = some 8 := by kernel_rfl
@[simp] theorem Tryz.ze153 : tyZero Tryz.prog 153 = some [.nilfn] := by kernel_rfl
@[simp] theorem Tryz.zv153 : tyZeroV Tryz.prog 153 = some (.nilfn) := by kernel_rfl
@[simp] theorem Tryz.ag153 : tyAgg Tryz.prog 153 = some false := by kernel_rfl
@[simp] theorem Tryz.if153 : tyIface Tryz.prog 153 = some false := by kernel_rfl
attribute [simp] Tryz.underlying153
@[simp] theorem Tryz.th153 : (Tryz.prog.underlying 153).isSome = true := by kernel_rfl
@[simp] theorem Tryz.st153 : tyStr Tryz.prog 153 = false := by kernel_rfl
@[simp] theorem Tryz.in153 : tyInt Tryz.prog 153 = none := by kernel_rfl
@[simp] theorem Tryz.el153 : tyElem Tryz.prog 153 = none := by kernel_rfl
@[simp] theorem Tryz.ar153 : tyArr Tryz.prog 153 = none := by kernel_rfl
@[simp] theorem Tryz.sz156 : tySize Tryz.prog 156 = some 1 := by kernel_rfl
@[simp] theorem Tryz.by156 : tyBytes Tryz.prog 156 = some 8 := by kernel_rfl
@[simp] theorem Tryz.ze156 : tyZero Tryz.prog 156 = some [.nilfn] := by kernel_rfl
@[simp] theorem Tryz.zv156 : tyZeroV Tryz.prog 156 = some (.nilfn) := by kernel_rfl
@[simp] theorem Tryz.ag156 : tyAgg Tryz.prog 156 = some false := by kernel_rfl
@[simp] theorem Tryz.if156 : tyIface Tryz.prog 156 = some false := by kernel_rfl
attribute [simp] Tryz.underlying156
@[simp] theorem Tryz.th156 : (Tryz.prog.underlying 156).isSome = true := by kernel_rfl
@[simp] theorem Tryz.st156 : tyStr Tryz.prog 156 = false := by kernel_rfl
@[simp] theorem Tryz.in156 : tyInt Tryz.prog 156 = none := by kernel_rfl
@[simp] theorem Tryz.el156 : tyElem Tryz.prog 156 = none := by kernel_rfl
@[simp] theorem Tryz.ar156 : tyArr Tryz.prog 156 = none := by kernel_rfl
@[simp] theorem Tryz.sz157 : tySize Tryz.prog 157 = some 1 := by kernel_rfl
@[simp] theorem Tryz.by157 : tyBytes Tryz.prog 157 = some 8 := by kernel_rfl
@[simp] theorem Tryz.ze157 : tyZero Tryz.prog 157 = some [.nilfn] := by kernel_rfl
@[simp] theorem Tryz.zv157 : tyZeroV Tryz.prog 157 = some (.nilfn) := by kernel_rfl
@[simp] theorem Tryz.ag157 : tyAgg Tryz.prog 157 = some false := by kernel_rfl
@[simp] theorem Tryz.if157 : tyIface Tryz.prog 157 = some false := by kernel_rfl
attribute [simp] Tryz.underlying157
@[simp] theorem Tryz.th157 : (Tryz.prog.underlying 157).isSome = true := by kernel_rfl
@[simp] theorem Tryz.st157 : tyStr Tryz.prog 157 = false := by kernel_rfl
@[simp] theorem Tryz.in157 : tyInt Tryz.prog 157 = none := by kernel_rfl
@[simp] theorem Tryz.el157 : tyElem Tryz.prog 157 = none := by kernel_rfl
@[simp] theorem Tryz.ar157 : tyArr Tryz.prog 157 = none := by kernel_rfl
@[simp] theorem Tryz.sz158 : tySize Tryz.prog 158 = some 2 := by kernel_rfl
@[simp] theorem Tryz.by158 : tyBytes Tryz.prog 158 = some 16 := by kernel_rfl
@[simp] theorem Tryz.ze158 : tyZero Tryz.prog 158 = some [.int .i64 0, .int .i64 0] := by kernel_rfl
@[simp] theorem Tryz.zv158 : tyZeroV Tryz.prog 158 = some (.agg [.int .i64 0, .int .i64 0]) := by kernel_rfl
@[simp] theorem Tryz.ag158 : tyAgg Tryz.prog 158 = some true := by kernel_rfl
@[simp] theorem Tryz.if158 : tyIface Tryz.prog 158 = some false := by kernel_rfl
attribute [simp] Tryz.underlying158
@[simp] theorem Tryz.th158 : (Tryz.prog.underlying 158).isSome = true := by kernel_rfl
@[simp] theorem Tryz.st158 : tyStr Tryz.prog 158 = false := by kernel_rfl
@[simp] theorem Tryz.in158 : tyInt Tryz.prog 158 = none := by kernel_rfl
@[simp] theorem Tryz.el158 : tyElem Tryz.prog 158 = none := by kernel_rfl
@[simp] theorem Tryz.ar158 : tyArr Tryz.prog 158 = none := by kernel_rfl
@[simp] theorem Tryz.fi158_0 : tyField Tryz.prog 158 0 = some (0, 3) := by kernel_rfl
@[simp] theorem Tryz.fi158_1 : tyField Tryz.prog 158 1 = some (1, 3) := by kernel_rfl
@[simp] theorem Tryz.pl158 : tyPlaces Tryz.prog 158 = some (.inl [(0, 1), (1, 1)]) := by kernel_rfl
@[simp] theorem Tryz.gu158 : Tryz.prog.eqGuardType Tryz.prog.depth 158 = false := by kernel_rfl
@[simp] theorem Tryz.si158 : Tryz.prog.stoodInHeld 158 = false := by kernel_rfl
@[simp] theorem Tryz.sz159 : tySize Tryz.prog 159 = some 2 := by kernel_rfl
@[simp] theorem Tryz.by159 : tyBytes Tryz.prog 159 = some 16 := by kernel_rfl
@[simp] theorem Tryz.ze159 : tyZero Tryz.prog 159 = some [.int .i64 0, .int .i64 0] := by kernel_rfl
@[simp] theorem Tryz.zv159 : tyZeroV Tryz.prog 159 = some (.agg [.int .i64 0, .int .i64 0]) := by kernel_rfl
@[simp] theorem Tryz.ag159 : tyAgg Tryz.prog 159 = some true := by kernel_rfl
@[simp] theorem Tryz.if159 : tyIface Tryz.prog 159 = some false := by kernel_rfl
attribute [simp] Tryz.underlying159
@[simp] theorem Tryz.th159 : (Tryz.prog.underlying 159).isSome = true := by kernel_rfl
@[simp] theorem Tryz.st159 : tyStr Tryz.prog 159 = false := by kernel_rfl
@[simp] theorem Tryz.in159 : tyInt Tryz.prog 159 = none := by kernel_rfl
@[simp] theorem Tryz.el159 : tyElem Tryz.prog 159 = none := by kernel_rfl
@[simp] theorem Tryz.ar159 : tyArr Tryz.prog 159 = none := by kernel_rfl
@[simp] theorem Tryz.fi159_0 : tyField Tryz.prog 159 0 = some (0, 3) := by kernel_rfl
@[simp] theorem Tryz.fi159_1 : tyField Tryz.prog 159 1 = some (1, 3) := by kernel_rfl
@[simp] theorem Tryz.pl159 : tyPlaces Tryz.prog 159 = some (.inl [(0, 1), (1, 1)]) := by kernel_rfl
@[simp] theorem Tryz.gu159 : Tryz.prog.eqGuardType Tryz.prog.depth 159 = false := by kernel_rfl
@[simp] theorem Tryz.si159 : Tryz.prog.stoodInHeld 159 = false := by kernel_rfl
@[simp] theorem Tryz.sz160 : tySize Tryz.prog 160 = some 1 := by kernel_rfl
@[simp] theorem Tryz.by160 : tyBytes Tryz.prog 160 = some 8 := by kernel_rfl
@[simp] theorem Tryz.ze160 : tyZero Tryz.prog 160 = some [.nilfn] := by kernel_rfl
@[simp] theorem Tryz.zv160 : tyZeroV Tryz.prog 160 = some (.nilfn) := by kernel_rfl
@[simp] theorem Tryz.ag160 : tyAgg Tryz.prog 160 = some false := by kernel_rfl
@[simp] theorem Tryz.if160 : tyIface Tryz.prog 160 = some false := by kernel_rfl
attribute [simp] Tryz.underlying160
@[simp] theorem Tryz.th160 : (Tryz.prog.underlying 160).isSome = true := by kernel_rfl
@[simp] theorem Tryz.st160 : tyStr Tryz.prog 160 = false := by kernel_rfl
@[simp] theorem Tryz.in160 : tyInt Tryz.prog 160 = none := by kernel_rfl
@[simp] theorem Tryz.el160 : tyElem Tryz.prog 160 = none := by kernel_rfl
@[simp] theorem Tryz.ar160 : tyArr Tryz.prog 160 = none := by kernel_rfl
@[simp] theorem Tryz.sz161 : tySize Tryz.prog 161 = some 1 := by kernel_rfl
@[simp] theorem Tryz.by161 : tyBytes Tryz.prog 161 = some 8 := by kernel_rfl
@[simp] theorem Tryz.ze161 : tyZero Tryz.prog 161 = some [.nilfn] := by kernel_rfl
@[simp] theorem Tryz.zv161 : tyZeroV Tryz.prog 161 = some (.nilfn) := by kernel_rfl
@[simp] theorem Tryz.ag161 : tyAgg Tryz.prog 161 = some false := by kernel_rfl
@[simp] theorem Tryz.if161 : tyIface Tryz.prog 161 = some false := by kernel_rfl
attribute [simp] Tryz.underlying161
@[simp] theorem Tryz.th161 : (Tryz.prog.underlying 161).isSome = true := by kernel_rfl
@[simp] theorem Tryz.st161 : tyStr Tryz.prog 161 = false := by kernel_rfl
@[simp] theorem Tryz.in161 : tyInt Tryz.prog 161 = none := by kernel_rfl
@[simp] theorem Tryz.el161 : tyElem Tryz.prog 161 = none := by kernel_rfl
@[simp] theorem Tryz.ar161 : tyArr Tryz.prog 161 = none := by kernel_rfl
@[simp] theorem Tryz.sz162 : tySize Tryz.prog 162 = some 1 := by kernel_rfl
@[simp] theorem Tryz.by162 : tyBytes Tryz.prog 162 = some 8 := by kernel_rfl
@[simp] theorem Tryz.ze162 : tyZero Tryz.prog 162 = some [.nilfn] := by kernel_rfl
@[simp] theorem Tryz.zv162 : tyZeroV Tryz.prog 162 = some (.nilfn) := by kernel_rfl
@[simp] theorem Tryz.ag162 : tyAgg Tryz.prog 162 = some false := by kernel_rfl
@[simp] theorem Tryz.if162 : tyIface Tryz.prog 162 = some false := by kernel_rfl
attribute [simp] Tryz.underlying162
@[simp] theorem Tryz.th162 : (Tryz.prog.underlying 162).isSome = true := by kernel_rfl
@[simp] theorem Tryz.st162 : tyStr Tryz.prog 162 = false := by kernel_rfl
@[simp] theorem Tryz.in162 : tyInt Tryz.prog 162 = none := by kernel_rfl
@[simp] theorem Tryz.el162 : tyElem Tryz.prog 162 = none := by kernel_rfl
@[simp] theorem Tryz.ar162 : tyArr Tryz.prog 162 = none := by kernel_rfl
@[simp] theorem Tryz.sz163 : tySize Tryz.prog 163 = some 1 := by kernel_rfl
@[simp] theorem Tryz.by163 : tyBytes Tryz.prog 163 = some 8 := by kernel_rfl
@[simp] theorem Tryz.ze163 : tyZero Tryz.prog 163 = some [.nilfn] := by kernel_rfl
@[simp] theorem Tryz.zv163 : tyZeroV Tryz.prog 163 = some (.nilfn) := by kernel_rfl
@[simp] theorem Tryz.ag163 : tyAgg Tryz.prog 163 = some false := by kernel_rfl
@[simp] theorem Tryz.if163 : tyIface Tryz.prog 163 = some false := by kernel_rfl
attribute [simp] Tryz.underlying163
@[simp] theorem Tryz.th163 : (Tryz.prog.underlying 163).isSome = true := by kernel_rfl
@[simp] theorem Tryz.st163 : tyStr Tryz.prog 163 = false := by kernel_rfl
@[simp] theorem Tryz.in163 : tyInt Tryz.prog 163 = none := by kernel_rfl
@[simp] theorem Tryz.el163 : tyElem Tryz.prog 163 = none := by kernel_rfl
@[simp] theorem Tryz.ar163 : tyArr Tryz.prog 163 = none := by kernel_rfl
@[simp] theorem Tryz.sz164 : tySize Tryz.prog 164 = some 1 := by kernel_rfl
@[simp] theorem Tryz.by164 : tyBytes Tryz.prog 164 = some 8 := by kernel_rfl
@[simp] theorem Tryz.ze164 : tyZero Tryz.prog 164 = some [.nilfn] := by kernel_rfl
@[simp] theorem Tryz.zv164 : tyZeroV Tryz.prog 164 = some (.nilfn) := by kernel_rfl
@[simp] theorem Tryz.ag164 : tyAgg Tryz.prog 164 = some false := by kernel_rfl
@[simp] theorem Tryz.if164 : tyIface Tryz.prog 164 = some false := by kernel_rfl
attribute [simp] Tryz.underlying164
@[simp] theorem Tryz.th164 : (Tryz.prog.underlying 164).isSome = true := by kernel_rfl
@[simp] theorem Tryz.st164 : tyStr Tryz.prog 164 = false := by kernel_rfl
@[simp] theorem Tryz.in164 : tyInt Tryz.prog 164 = none := by kernel_rfl
@[simp] theorem Tryz.el164 : tyElem Tryz.prog 164 = none := by kernel_rfl
@[simp] theorem Tryz.ar164 : tyArr Tryz.prog 164 = none := by kernel_rfl
@[simp] theorem Tryz.sz165 : tySize Tryz.prog 165 = some 1 := by kernel_rfl
@[simp] theorem Tryz.by165 : tyBytes Tryz.prog 165 = some 8 := by kernel_rfl
@[simp] theorem Tryz.ze165 : tyZero Tryz.prog 165 = some [.nilfn] := by kernel_rfl
@[simp] theorem Tryz.zv165 : tyZeroV Tryz.prog 165 = some (.nilfn) := by kernel_rfl
@[simp] theorem Tryz.ag165 : tyAgg Tryz.prog 165 = some false := by kernel_rfl
@[simp] theorem Tryz.if165 : tyIface Tryz.prog 165 = some false := by kernel_rfl
attribute [simp] Tryz.underlying165
@[simp] theorem Tryz.th165 : (Tryz.prog.underlying 165).isSome = true := by kernel_rfl
@[simp] theorem Tryz.st165 : tyStr Tryz.prog 165 = false := by kernel_rfl
@[simp] theorem Tryz.in165 : tyInt Tryz.prog 165 = none := by kernel_rfl
@[simp] theorem Tryz.el165 : tyElem Tryz.prog 165 = none := by kernel_rfl
@[simp] theorem Tryz.ar165 : tyArr Tryz.prog 165 = none := by kernel_rfl
@[simp] theorem Tryz.sz166 : tySize Tryz.prog 166 = some 1 := by kernel_rfl
@[simp] theorem Tryz.by166 : tyBytes Tryz.prog 166 = some 8 := by kernel_rfl
@[simp] theorem Tryz.ze166 : tyZero Tryz.prog 166 = some [.nilfn] := by kernel_rfl
@[simp] theorem Tryz.zv166 : tyZeroV Tryz.prog 166 = some (.nilfn) := by kernel_rfl
@[simp] theorem Tryz.ag166 : tyAgg Tryz.prog 166 = some false := by kernel_rfl
@[simp] theorem Tryz.if166 : tyIface Tryz.prog 166 = some false := by kernel_rfl
attribute [simp] Tryz.underlying166
@[simp] theorem Tryz.th166 : (Tryz.prog.underlying 166).isSome = true := by kernel_rfl
@[simp] theorem Tryz.st166 : tyStr Tryz.prog 166 = false := by kernel_rfl
@[simp] theorem Tryz.in166 : tyInt Tryz.prog 166 = none := by kernel_rfl
@[simp] theorem Tryz.el166 : tyElem Tryz.prog 166 = none := by kernel_rfl
@[simp] theorem Tryz.ar166 : tyArr Tryz.prog 166 = none := by kernel_rfl
@[simp] theorem Tryz.sz167 : tySize Tryz.prog 167 = some 1 := by kernel_rfl
@[simp] theorem Tryz.by167 : tyBytes Tryz.prog 167 = some 8 := by kernel_rfl
@[simp] theorem Tryz.ze167 : tyZero Tryz.prog 167 = some [.nilfn] := by kernel_rfl
@[simp] theorem Tryz.zv167 : tyZeroV Tryz.prog 167 = some (.nilfn) := by kernel_rfl
@[simp] theorem Tryz.ag167 : tyAgg Tryz.prog 167 = some false := by kernel_rfl
@[simp] theorem Tryz.if167 : tyIface Tryz.prog 167 = some false := by kernel_rfl
attribute [simp] Tryz.underlying167
@[simp] theorem Tryz.th167 : (Tryz.prog.underlying 167).isSome = true := by kernel_rfl
@[simp] theorem Tryz.st167 : tyStr Tryz.prog 167 = false := by kernel_rfl
@[simp] theorem Tryz.in167 : tyInt Tryz.prog 167 = none := by kernel_rfl
@[simp] theorem Tryz.el167 : tyElem Tryz.prog 167 = none := by kernel_rfl
@[simp] theorem Tryz.ar167 : tyArr Tryz.prog 167 = none := by kernel_rfl
@[simp] theorem Tryz.sz168 : tySize Tryz.prog 168 = some 1 := by kernel_rfl
@[simp] theorem Tryz.by168 : tyBytes Tryz.prog 168 = some 8 := by kernel_rfl
@[simp] theorem Tryz.ze168 : tyZero Tryz.prog 168 = some [.nilfn] := by kernel_rfl
@[simp] theorem Tryz.zv168 : tyZeroV Tryz.prog 168 = some (.nilfn) := by kernel_rfl
@[simp] theorem Tryz.ag168 : tyAgg Tryz.prog 168 = some false := by kernel_rfl
@[simp] theorem Tryz.if168 : tyIface Tryz.prog 168 = some false := by kernel_rfl
attribute [simp] Tryz.underlying168
@[simp] theorem Tryz.th168 : (Tryz.prog.underlying 168).isSome = true := by kernel_rfl
@[simp] theorem Tryz.st168 : tyStr Tryz.prog 168 = false := by kernel_rfl
@[simp] theorem Tryz.in168 : tyInt Tryz.prog 168 = none := by kernel_rfl
@[simp] theorem Tryz.el168 : tyElem Tryz.prog 168 = none := by kernel_rfl
@[simp] theorem Tryz.ar168 : tyArr Tryz.prog 168 = none := by kernel_rfl
@[simp] theorem Tryz.sz170 : tySize Tryz.prog 170 = some 1 := by kernel_rfl
@[simp] theorem Tryz.by170 : tyBytes Tryz.prog 170 = some 8 := by kernel_rfl
@[simp] theorem Tryz.ze170 : tyZero Tryz.prog 170 = some [.nilfn] := by kernel_rfl
@[simp] theorem Tryz.zv170 : tyZeroV Tryz.prog 170 = some (.nilfn) := by kernel_rfl
@[simp] theorem Tryz.ag170 : tyAgg Tryz.prog 170 = some false := by kernel_rfl
@[simp] theorem Tryz.if170 : tyIface Tryz.prog 170 = some false := by kernel_rfl
attribute [simp] Tryz.underlying170
@[simp] theorem Tryz.th170 : (Tryz.prog.underlying 170).isSome = true := by kernel_rfl
@[simp] theorem Tryz.st170 : tyStr Tryz.prog 170 = false := by kernel_rfl
@[simp] theorem Tryz.in170 : tyInt Tryz.prog 170 = none := by kernel_rfl
@[simp] theorem Tryz.el170 : tyElem Tryz.prog 170 = none := by kernel_rfl
@[simp] theorem Tryz.ar170 : tyArr Tryz.prog 170 = none := by kernel_rfl
@[simp] theorem Tryz.sz173 : tySize Tryz.prog 173 = some 1 := by kernel_rfl
@[simp] theorem Tryz.by173 : tyBytes Tryz.prog 173 = some 8 := by kernel_rfl
@[simp] theorem Tryz.ze173 : tyZero Tryz.prog 173 = some [.nilptr] := by kernel_rfl
@[simp] theorem Tryz.zv173 : tyZeroV Tryz.prog 173 = some (.nilptr) := by kernel_rfl
@[simp] theorem Tryz.ag173 : tyAgg Tryz.prog 173 = some false := by kernel_rfl
@[simp] theorem Tryz.if173 : tyIface Tryz.prog 173 = some false := by kernel_rfl
attribute [simp] Tryz.underlying173
@[simp] theorem Tryz.th173 : (Tryz.prog.underlying 173).isSome = true := by kernel_rfl
@[simp] theorem Tryz.st173 : tyStr Tryz.prog 173 = false := by kernel_rfl
@[simp] theorem Tryz.in173 : tyInt Tryz.prog 173 = none := by kernel_rfl
@[simp] theorem Tryz.el173 : tyElem Tryz.prog 173 = none := by kernel_rfl
@[simp] theorem Tryz.ar173 : tyArr Tryz.prog 173 = none := by kernel_rfl
@[simp] theorem Tryz.sz174 : tySize Tryz.prog 174 = some 1 := by kernel_rfl
@[simp] theorem Tryz.by174 : tyBytes Tryz.prog 174 = some 8 := by kernel_rfl
@[simp] theorem Tryz.ze174 : tyZero Tryz.prog 174 = some [.nilfn] := by kernel_rfl
@[simp] theorem Tryz.zv174 : tyZeroV Tryz.prog 174 = some (.nilfn) := by kernel_rfl
@[simp] theorem Tryz.ag174 : tyAgg Tryz.prog 174 = some false := by kernel_rfl
@[simp] theorem Tryz.if174 : tyIface Tryz.prog 174 = some false := by kernel_rfl
attribute [simp] Tryz.underlying174
@[simp] theorem Tryz.th174 : (Tryz.prog.underlying 174).isSome = true := by kernel_rfl
@[simp] theorem Tryz.st174 : tyStr Tryz.prog 174 = false := by kernel_rfl
@[simp] theorem Tryz.in174 : tyInt Tryz.prog 174 = none := by kernel_rfl
@[simp] theorem Tryz.el174 : tyElem Tryz.prog 174 = none := by kernel_rfl
@[simp] theorem Tryz.ar174 : tyArr Tryz.prog 174 = none := by kernel_rfl
@[simp] theorem Tryz.sz175 : tySize Tryz.prog 175 = some 1 := by kernel_rfl
@[simp] theorem Tryz.by175 : tyBytes Tryz.prog 175 = some 8 := by kernel_rfl
@[simp] theorem Tryz.ze175 : tyZero Tryz.prog 175 = some [.nilfn] := by kernel_rfl
@[simp] theorem Tryz.zv175 : tyZeroV Tryz.prog 175 = some (.nilfn) := by kernel_rfl
@[simp] theorem Tryz.ag175 : tyAgg Tryz.prog 175 = some false := by kernel_rfl
@[simp] theorem Tryz.if175 : tyIface Tryz.prog 175 = some false := by kernel_rfl
attribute [simp] Tryz.underlying175
@[simp] theorem Tryz.th175 : (Tryz.prog.underlying 175).isSome = true := by kernel_rfl
@[simp] theorem Tryz.st175 : tyStr Tryz.prog 175 = false := by kernel_rfl
@[simp] theorem Tryz.in175 : tyInt Tryz.prog 175 = none := by kernel_rfl
@[simp] theorem Tryz.el175 : tyElem Tryz.prog 175 = none := by kernel_rfl
@[simp] theorem Tryz.ar175 : tyArr Tryz.prog 175 = none := by kernel_rfl
@[simp] theorem Tryz.sz176 : tySize Tryz.prog 176 = some 1 := by kernel_rfl
@[simp] theorem Tryz.by176 : tyBytes Tryz.prog 176 = some 8 := by kernel_rfl
@[simp] theorem Tryz.ze176 : tyZero Tryz.prog 176 = some [.nilfn] := by kernel_rfl
@[simp] theorem Tryz.zv176 : tyZeroV Tryz.prog 176 = some (.nilfn) := by kernel_rfl
@[simp] theorem Tryz.ag176 : tyAgg Tryz.prog 176 = some false := by kernel_rfl
@[simp] theorem Tryz.if176 : tyIface Tryz.prog 176 = some false := by kernel_rfl
attribute [simp] Tryz.underlying176
@[simp] theorem Tryz.th176 : (Tryz.prog.underlying 176).isSome = true := by kernel_rfl
@[simp] theorem Tryz.st176 : tyStr Tryz.prog 176 = false := by kernel_rfl
@[simp] theorem Tryz.in176 : tyInt Tryz.prog 176 = none := by kernel_rfl
@[simp] theorem Tryz.el176 : tyElem Tryz.prog 176 = none := by kernel_rfl
@[simp] theorem Tryz.ar176 : tyArr Tryz.prog 176 = none := by kernel_rfl
@[simp] theorem Tryz.sz177 : tySize Tryz.prog 177 = some 1 := by kernel_rfl
@[simp] theorem Tryz.by177 : tyBytes Tryz.prog 177 = some 16 := by kernel_rfl
@[simp] theorem Tryz.ze177 : tyZero Tryz.prog 177 = some [.nilifc] := by kernel_rfl
@[simp] theorem Tryz.zv177 : tyZeroV Tryz.prog 177 = some (.nilifc) := by kernel_rfl
@[simp] theorem Tryz.ag177 : tyAgg Tryz.prog 177 = some false := by kernel_rfl
@[simp] theorem Tryz.if177 : tyIface Tryz.prog 177 = some true := by kernel_rfl
attribute [simp] Tryz.underlying177
@[simp] theorem Tryz.th177 : (Tryz.prog.underlying 177).isSome = true := by kernel_rfl
@[simp] theorem Tryz.st177 : tyStr Tryz.prog 177 = false := by kernel_rfl
@[simp] theorem Tryz.in177 : tyInt Tryz.prog 177 = none := by kernel_rfl
@[simp] theorem Tryz.el177 : tyElem Tryz.prog 177 = none := by kernel_rfl
@[simp] theorem Tryz.ar177 : tyArr Tryz.prog 177 = none := by kernel_rfl
@[simp] theorem Tryz.sz179 : tySize Tryz.prog 179 = some 1 := by kernel_rfl
@[simp] theorem Tryz.by179 : tyBytes Tryz.prog 179 = some 8 := by kernel_rfl
@[simp] theorem Tryz.ze179 : tyZero Tryz.prog 179 = some [.nilfn] := by kernel_rfl
@[simp] theorem Tryz.zv179 : tyZeroV Tryz.prog 179 = some (.nilfn) := by kernel_rfl
@[simp] theorem Tryz.ag179 : tyAgg Tryz.prog 179 = some false := by kernel_rfl
@[simp] theorem Tryz.if179 : tyIface Tryz.prog 179 = some false := by kernel_rfl
attribute [simp] Tryz.underlying179
@[simp] theorem Tryz.th179 : (Tryz.prog.underlying 179).isSome = true := by kernel_rfl
@[simp] theorem Tryz.st179 : tyStr Tryz.prog 179 = false := by kernel_rfl
@[simp] theorem Tryz.in179 : tyInt Tryz.prog 179 = none := by kernel_rfl
@[simp] theorem Tryz.el179 : tyElem Tryz.prog 179 = none := by kernel_rfl
@[simp] theorem Tryz.ar179 : tyArr Tryz.prog 179 = none := by kernel_rfl
@[simp] theorem Tryz.sz180 : tySize Tryz.prog 180 = some 1 := by kernel_rfl
@[simp] theorem Tryz.by180 : tyBytes Tryz.prog 180 = some 16 := by kernel_rfl
@[simp] theorem Tryz.ze180 : tyZero Tryz.prog 180 = some [.nilifc] := by kernel_rfl
@[simp] theorem Tryz.zv180 : tyZeroV Tryz.prog 180 = some (.nilifc) := by kernel_rfl
@[simp] theorem Tryz.ag180 : tyAgg Tryz.prog 180 = some false := by kernel_rfl
@[simp] theorem Tryz.if180 : tyIface Tryz.prog 180 = some true := by kernel_rfl
attribute [simp] Tryz.underlying180
@[simp] theorem Tryz.th180 : (Tryz.prog.underlying 180).isSome = true := by kernel_rfl
@[simp] theorem Tryz.st180 : tyStr Tryz.prog 180 = false := by kernel_rfl
@[simp] theorem Tryz.in180 : tyInt Tryz.prog 180 = none := by kernel_rfl
@[simp] theorem Tryz.el180 : tyElem Tryz.prog 180 = none := by kernel_rfl
@[simp] theorem Tryz.ar180 : tyArr Tryz.prog 180 = none := by kernel_rfl
@[simp] theorem Tryz.sz181 : tySize Tryz.prog 181 = some 1 := by kernel_rfl
@[simp] theorem Tryz.by181 : tyBytes Tryz.prog 181 = some 8 := by kernel_rfl
@[simp] theorem Tryz.ze181 : tyZero Tryz.prog 181 = some [.nilfn] := by kernel_rfl
@[simp] theorem Tryz.zv181 : tyZeroV Tryz.prog 181 = some (.nilfn) := by kernel_rfl
@[simp] theorem Tryz.ag181 : tyAgg Tryz.prog 181 = some false := by kernel_rfl
@[simp] theorem Tryz.if181 : tyIface Tryz.prog 181 = some false := by kernel_rfl
attribute [simp] Tryz.underlying181
@[simp] theorem Tryz.th181 : (Tryz.prog.underlying 181).isSome = true := by kernel_rfl
@[simp] theorem Tryz.st181 : tyStr Tryz.prog 181 = false := by kernel_rfl
@[simp] theorem Tryz.in181 : tyInt Tryz.prog 181 = none := by kernel_rfl
@[simp] theorem Tryz.el181 : tyElem Tryz.prog 181 = none := by kernel_rfl
@[simp] theorem Tryz.ar181 : tyArr Tryz.prog 181 = none := by kernel_rfl
@[simp] theorem Tryz.sz182 : tySize Tryz.prog 182 = some 1 := by kernel_rfl
@[simp] theorem Tryz.by182 : tyBytes Tryz.prog 182 = some 16 := by kernel_rfl
@[simp] theorem Tryz.ze182 : tyZero Tryz.prog 182 = some [.nilifc] := by kernel_rfl
@[simp] theorem Tryz.zv182 : tyZeroV Tryz.prog 182 = some (.nilifc) := by kernel_rfl
@[simp] theorem Tryz.ag182 : tyAgg Tryz.prog 182 = some false := by kernel_rfl
@[simp] theorem Tryz.if182 : tyIface Tryz.prog 182 = some true := by kernel_rfl
attribute [simp] Tryz.underlying182
@[simp] theorem Tryz.th182 : (Tryz.prog.underlying 182).isSome = true := by kernel_rfl
@[simp] theorem Tryz.st182 : tyStr Tryz.prog 182 = false := by kernel_rfl
@[simp] theorem Tryz.in182 : tyInt Tryz.prog 182 = none := by kernel_rfl
@[simp] theorem Tryz.el182 : tyElem Tryz.prog 182 = none := by kernel_rfl
@[simp] theorem Tryz.ar182 : tyArr Tryz.prog 182 = none := by kernel_rfl
@[simp] theorem Tryz.sz183 : tySize Tryz.prog 183 = some 1 := by kernel_rfl
@[simp] theorem Tryz.by183 : tyBytes Tryz.prog 183 = some 24 := by kernel_rfl
@[simp] theorem Tryz.ze183 : tyZero Tryz.prog 183 = some [.sl 0 [] .nil] := by kernel_rfl
@[simp] theorem Tryz.zv183 : tyZeroV Tryz.prog 183 = some (.sl 0 [] .nil) := by kernel_rfl
@[simp] theorem Tryz.ag183 : tyAgg Tryz.prog 183 = some false := by kernel_rfl
@[simp] theorem Tryz.if183 : tyIface Tryz.prog 183 = some false := by kernel_rfl
@[simp] theorem Tryz.th183 : (Tryz.prog.underlying 183).isSome = true := by kernel_rfl
@[simp] theorem Tryz.st183 : tyStr Tryz.prog 183 = false := by kernel_rfl
@[simp] theorem Tryz.in183 : tyInt Tryz.prog 183 = none := by kernel_rfl
@[simp] theorem Tryz.el183 : tyElem Tryz.prog 183 = some 121 := by kernel_rfl
@[simp] theorem Tryz.ar183 : tyArr Tryz.prog 183 = none := by kernel_rfl
@[simp] theorem Tryz.sz184 : tySize Tryz.prog 184 = some 1 := by kernel_rfl
@[simp] theorem Tryz.by184 : tyBytes Tryz.prog 184 = some 8 := by kernel_rfl
@[simp] theorem Tryz.ze184 : tyZero Tryz.prog 184 = some [.nilfn] := by kernel_rfl
@[simp] theorem Tryz.zv184 : tyZeroV Tryz.prog 184 = some (.nilfn) := by kernel_rfl
@[simp] theorem Tryz.ag184 : tyAgg Tryz.prog 184 = some false := by kernel_rfl
@[simp] theorem Tryz.if184 : tyIface Tryz.prog 184 = some false := by kernel_rfl
attribute [simp] Tryz.underlying184
@[simp] theorem Tryz.th184 : (Tryz.prog.underlying 184).isSome = true := by kernel_rfl
@[simp] theorem Tryz.st184 : tyStr Tryz.prog 184 = false := by kernel_rfl
@[simp] theorem Tryz.in184 : tyInt Tryz.prog 184 = none := by kernel_rfl
@[simp] theorem Tryz.el184 : tyElem Tryz.prog 184 = none := by kernel_rfl
@[simp] theorem Tryz.ar184 : tyArr Tryz.prog 184 = none := by kernel_rfl
@[simp] theorem Tryz.sz185 : tySize Tryz.prog 185 = some 1 := by kernel_rfl
@[simp] theorem Tryz.by185 : tyBytes Tryz.prog 185 = some 8 := by kernel_rfl
@[simp] theorem Tryz.ze185 : tyZero Tryz.prog 185 = some [.nilfn] := by kernel_rfl
@[simp] theorem Tryz.zv185 : tyZeroV Tryz.prog 185 = some (.nilfn) := by kernel_rfl
@[simp] theorem Tryz.ag185 : tyAgg Tryz.prog 185 = some false := by kernel_rfl
@[simp] theorem Tryz.if185 : tyIface Tryz.prog 185 = some false := by kernel_rfl
attribute [simp] Tryz.underlying185
@[simp] theorem Tryz.th185 : (Tryz.prog.underlying 185).isSome = true := by kernel_rfl
@[simp] theorem Tryz.st185 : tyStr Tryz.prog 185 = false := by kernel_rfl
@[simp] theorem Tryz.in185 : tyInt Tryz.prog 185 = none := by kernel_rfl
@[simp] theorem Tryz.el185 : tyElem Tryz.prog 185 = none := by kernel_rfl
@[simp] theorem Tryz.ar185 : tyArr Tryz.prog 185 = none := by kernel_rfl
@[simp] theorem Tryz.sz186 : tySize Tryz.prog 186 = some 1 := by kernel_rfl
@[simp] theorem Tryz.by186 : tyBytes Tryz.prog 186 = some 8 := by kernel_rfl
@[simp] theorem Tryz.ze186 : tyZero Tryz.prog 186 = some [.nilfn] := by kernel_rfl
@[simp] theorem Tryz.zv186 : tyZeroV Tryz.prog 186 = some (.nilfn) := by kernel_rfl
@[simp] theorem Tryz.ag186 : tyAgg Tryz.prog 186 = some false := by kernel_rfl
@[simp] theorem Tryz.if186 : tyIface Tryz.prog 186 = some false := by kernel_rfl
attribute [simp] Tryz.underlying186
@[simp] theorem Tryz.th186 : (Tryz.prog.underlying 186).isSome = true := by kernel_rfl
@[simp] theorem Tryz.st186 : tyStr Tryz.prog 186 = false := by kernel_rfl
@[simp] theorem Tryz.in186 : tyInt Tryz.prog 186 = none := by kernel_rfl
@[simp] theorem Tryz.el186 : tyElem Tryz.prog 186 = none := by kernel_rfl
@[simp] theorem Tryz.ar186 : tyArr Tryz.prog 186 = none := by kernel_rfl
@[simp] theorem Tryz.sz188 : tySize Tryz.prog 188 = some 1 := by kernel_rfl
@[simp] theorem Tryz.by188 : tyBytes Tryz.prog 188 = some 8 := by kernel_rfl
@[simp] theorem Tryz.ze188 : tyZero Tryz.prog 188 = some [.nilfn] := by kernel_rfl
@[simp] theorem Tryz.zv188 : tyZeroV Tryz.prog 188 = some (.nilfn) := by kernel_rfl
@[simp] theorem Tryz.ag188 : tyAgg Tryz.prog 188 = some false := by kernel_rfl
@[simp] theorem Tryz.if188 : tyIface Tryz.prog 188 = some false := by kernel_rfl
attribute [simp] Tryz.underlying188
@[simp] theorem Tryz.th188 : (Tryz.prog.underlying 188).isSome = true := by kernel_rfl
@[simp] theorem Tryz.st188 : tyStr Tryz.prog 188 = false := by kernel_rfl
@[simp] theorem Tryz.in188 : tyInt Tryz.prog 188 = none := by kernel_rfl
@[simp] theorem Tryz.el188 : tyElem Tryz.prog 188 = none := by kernel_rfl
@[simp] theorem Tryz.ar188 : tyArr Tryz.prog 188 = none := by kernel_rfl
@[simp] theorem Tryz.sz189 : tySize Tryz.prog 189 = some 1 := by kernel_rfl
@[simp] theorem Tryz.by189 : tyBytes Tryz.prog 189 = some 8 := by kernel_rfl
@[simp] theorem Tryz.ze189 : tyZero Tryz.prog 189 = some [.nilfn] := by kernel_rfl
@[simp] theorem Tryz.zv189 : tyZeroV Tryz.prog 189 = some (.nilfn) := by kernel_rfl
@[simp] theorem Tryz.ag189 : tyAgg Tryz.prog 189 = some false := by kernel_rfl
@[simp] theorem Tryz.if189 : tyIface Tryz.prog 189 = some false := by kernel_rfl
attribute [simp] Tryz.underlying189
@[simp] theorem Tryz.th189 : (Tryz.prog.underlying 189).isSome = true := by kernel_rfl
@[simp] theorem Tryz.st189 : tyStr Tryz.prog 189 = false := by kernel_rfl
@[simp] theorem Tryz.in189 : tyInt Tryz.prog 189 = none := by kernel_rfl
@[simp] theorem Tryz.el189 : tyElem Tryz.prog 189 = none := by kernel_rfl
@[simp] theorem Tryz.ar189 : tyArr Tryz.prog 189 = none := by kernel_rfl
@[simp] theorem Tryz.sz190 : tySize Tryz.prog 190 = some 1 := by kernel_rfl
@[simp] theorem Tryz.by190 : tyBytes Tryz.prog 190 = some 8 := by kernel_rfl
@[simp] theorem Tryz.ze190 : tyZero Tryz.prog 190 = some [.nilfn] := by kernel_rfl
@[simp] theorem Tryz.zv190 : tyZeroV Tryz.prog 190 = some (.nilfn) := by kernel_rfl
@[simp] theorem Tryz.ag190 : tyAgg Tryz.prog 190 = some false := by kernel_rfl
@[simp] theorem Tryz.if190 : tyIface Tryz.prog 190 = some false := by kernel_rfl
attribute [simp] Tryz.underlying190
@[simp] theorem Tryz.th190 : (Tryz.prog.underlying 190).isSome = true := by kernel_rfl
@[simp] theorem Tryz.st190 : tyStr Tryz.prog 190 = false := by kernel_rfl
@[simp] theorem Tryz.in190 : tyInt Tryz.prog 190 = none := by kernel_rfl
@[simp] theorem Tryz.el190 : tyElem Tryz.prog 190 = none := by kernel_rfl
@[simp] theorem Tryz.ar190 : tyArr Tryz.prog 190 = none := by kernel_rfl
@[simp] theorem Tryz.sz191 : tySize Tryz.prog 191 = some 1 := by kernel_rfl
@[simp] theorem Tryz.by191 : tyBytes Tryz.prog 191 = some 8 := by kernel_rfl
@[simp] theorem Tryz.ze191 : tyZero Tryz.prog 191 = some [.nilfn] := by kernel_rfl
@[simp] theorem Tryz.zv191 : tyZeroV Tryz.prog 191 = some (.nilfn) := by kernel_rfl
@[simp] theorem Tryz.ag191 : tyAgg Tryz.prog 191 = some false := by kernel_rfl
@[simp] theorem Tryz.if191 : tyIface Tryz.prog 191 = some false := by kernel_rfl
attribute [simp] Tryz.underlying191
@[simp] theorem Tryz.th191 : (Tryz.prog.underlying 191).isSome = true := by kernel_rfl
@[simp] theorem Tryz.st191 : tyStr Tryz.prog 191 = false := by kernel_rfl
@[simp] theorem Tryz.in191 : tyInt Tryz.prog 191 = none := by kernel_rfl
@[simp] theorem Tryz.el191 : tyElem Tryz.prog 191 = none := by kernel_rfl
@[simp] theorem Tryz.ar191 : tyArr Tryz.prog 191 = none := by kernel_rfl
@[simp] theorem Tryz.sz192 : tySize Tryz.prog 192 = some 1 := by kernel_rfl
@[simp] theorem Tryz.by192 : tyBytes Tryz.prog 192 = some 24 := by kernel_rfl
@[simp] theorem Tryz.ze192 : tyZero Tryz.prog 192 = some [.sl 0 [] .nil] := by kernel_rfl
@[simp] theorem Tryz.zv192 : tyZeroV Tryz.prog 192 = some (.sl 0 [] .nil) := by kernel_rfl
@[simp] theorem Tryz.ag192 : tyAgg Tryz.prog 192 = some false := by kernel_rfl
@[simp] theorem Tryz.if192 : tyIface Tryz.prog 192 = some false := by kernel_rfl
@[simp] theorem Tryz.th192 : (Tryz.prog.underlying 192).isSome = true := by kernel_rfl
@[simp] theorem Tryz.st192 : tyStr Tryz.prog 192 = false := by kernel_rfl
@[simp] theorem Tryz.in192 : tyInt Tryz.prog 192 = none := by kernel_rfl
@[simp] theorem Tryz.el192 : tyElem Tryz.prog 192 = some 25 := by kernel_rfl
@[simp] theorem Tryz.ar192 : tyArr Tryz.prog 192 = none := by kernel_rfl
@[simp] theorem Tryz.sz193 : tySize Tryz.prog 193 = some 1 := by kernel_rfl
@[simp] theorem Tryz.by193 : tyBytes Tryz.prog 193 = some 8 := by kernel_rfl
@[simp] theorem Tryz.ze193 : tyZero Tryz.prog 193 = some [.nilfn] := by kernel_rfl
@[simp] theorem Tryz.zv193 : tyZeroV Tryz.prog 193 = some (.nilfn) := by kernel_rfl
@[simp] theorem Tryz.ag193 : tyAgg Tryz.prog 193 = some false := by kernel_rfl
@[simp] theorem Tryz.if193 : tyIface Tryz.prog 193 = some false := by kernel_rfl
attribute [simp] Tryz.underlying193
@[simp] theorem Tryz.th193 : (Tryz.prog.underlying 193).isSome = true := by kernel_rfl
@[simp] theorem Tryz.st193 : tyStr Tryz.prog 193 = false := by kernel_rfl
@[simp] theorem Tryz.in193 : tyInt Tryz.prog 193 = none := by kernel_rfl
@[simp] theorem Tryz.el193 : tyElem Tryz.prog 193 = none := by kernel_rfl
@[simp] theorem Tryz.ar193 : tyArr Tryz.prog 193 = none := by kernel_rfl
@[simp] theorem Tryz.sz194 : tySize Tryz.prog 194 = some 1 := by kernel_rfl
@[simp] theorem Tryz.by194 : tyBytes Tryz.prog 194 = some 8 := by kernel_rfl
@[simp] theorem Tryz.ze194 : tyZero Tryz.prog 194 = some [.nilfn] := by kernel_rfl
@[simp] theorem Tryz.zv194 : tyZeroV Tryz.prog 194 = some (.nilfn) := by kernel_rfl
@[simp] theorem Tryz.ag194 : tyAgg Tryz.prog 194 = some false := by kernel_rfl
@[simp] theorem Tryz.if194 : tyIface Tryz.prog 194 = some false := by kernel_rfl
attribute [simp] Tryz.underlying194
@[simp] theorem Tryz.th194 : (Tryz.prog.underlying 194).isSome = true := by kernel_rfl
@[simp] theorem Tryz.st194 : tyStr Tryz.prog 194 = false := by kernel_rfl
@[simp] theorem Tryz.in194 : tyInt Tryz.prog 194 = none := by kernel_rfl
@[simp] theorem Tryz.el194 : tyElem Tryz.prog 194 = none := by kernel_rfl
@[simp] theorem Tryz.ar194 : tyArr Tryz.prog 194 = none := by kernel_rfl
@[simp] theorem Tryz.sz195 : tySize Tryz.prog 195 = some 1 := by kernel_rfl
@[simp] theorem Tryz.by195 : tyBytes Tryz.prog 195 = some 8 := by kernel_rfl
@[simp] theorem Tryz.ze195 : tyZero Tryz.prog 195 = some [.nilfn] := by kernel_rfl
@[simp] theorem Tryz.zv195 : tyZeroV Tryz.prog 195 = some (.nilfn) := by kernel_rfl
@[simp] theorem Tryz.ag195 : tyAgg Tryz.prog 195 = some false := by kernel_rfl
@[simp] theorem Tryz.if195 : tyIface Tryz.prog 195 = some false := by kernel_rfl
attribute [simp] Tryz.underlying195
@[simp] theorem Tryz.th195 : (Tryz.prog.underlying 195).isSome = true := by kernel_rfl
@[simp] theorem Tryz.st195 : tyStr Tryz.prog 195 = false := by kernel_rfl
@[simp] theorem Tryz.in195 : tyInt Tryz.prog 195 = none := by kernel_rfl
@[simp] theorem Tryz.el195 : tyElem Tryz.prog 195 = none := by kernel_rfl
@[simp] theorem Tryz.ar195 : tyArr Tryz.prog 195 = none := by kernel_rfl
@[simp] theorem Tryz.sz196 : tySize Tryz.prog 196 = some 1 := by kernel_rfl
@[simp] theorem Tryz.by196 : tyBytes Tryz.prog 196 = some 8 := by kernel_rfl
@[simp] theorem Tryz.ze196 : tyZero Tryz.prog 196 = some [.nilfn] := by kernel_rfl
@[simp] theorem Tryz.zv196 : tyZeroV Tryz.prog 196 = some (.nilfn) := by kernel_rfl
@[simp] theorem Tryz.ag196 : tyAgg Tryz.prog 196 = some false := by kernel_rfl
@[simp] theorem Tryz.if196 : tyIface Tryz.prog 196 = some false := by kernel_rfl
attribute [simp] Tryz.underlying196
@[simp] theorem Tryz.th196 : (Tryz.prog.underlying 196).isSome = true := by kernel_rfl
@[simp] theorem Tryz.st196 : tyStr Tryz.prog 196 = false := by kernel_rfl
@[simp] theorem Tryz.in196 : tyInt Tryz.prog 196 = none := by kernel_rfl
@[simp] theorem Tryz.el196 : tyElem Tryz.prog 196 = none := by kernel_rfl
@[simp] theorem Tryz.ar196 : tyArr Tryz.prog 196 = none := by kernel_rfl
@[simp] theorem Tryz.sz197 : tySize Tryz.prog 197 = some 18 := by kernel_rfl
@[simp] theorem Tryz.by197 : tyBytes Tryz.prog 197 = some 144 := by kernel_rfl
@[simp] theorem Tryz.ze197 : tyZero Tryz.prog 197 = some [.int .i64 0, .int .i64 0, .int .i64 0, .int .i64 0, .int .i64 0, .int .i64 0, .int .i64 0, .int .i64 0, .int .i64 0, .int .i64 0, .int .i64 0, .int .i64 0, .int .i64 0, .int .i64 0, .int .i64 0, .int .i64 0, .int .i64 0, .int .i64 0] := by kernel_rfl
@[simp] theorem Tryz.zv197 : tyZeroV Tryz.prog 197 = some (.agg [.int .i64 0, .int .i64 0, .int .i64 0, .int .i64 0, .int .i64 0, .int .i64 0, .int .i64 0, .int .i64 0, .int .i64 0, .int .i64 0, .int .i64 0, .int .i64 0, .int .i64 0, .int .i64 0, .int .i64 0, .int .i64 0, .int .i64 0, .int .i64 0]) := by kernel_rfl
@[simp] theorem Tryz.ag197 : tyAgg Tryz.prog 197 = some true := by kernel_rfl
@[simp] theorem Tryz.if197 : tyIface Tryz.prog 197 = some false := by kernel_rfl
attribute [simp] Tryz.underlying197
@[simp] theorem Tryz.th197 : (Tryz.prog.underlying 197).isSome = true := by kernel_rfl
@[simp] theorem Tryz.st197 : tyStr Tryz.prog 197 = false := by kernel_rfl
@[simp] theorem Tryz.in197 : tyInt Tryz.prog 197 = none := by kernel_rfl
@[simp] theorem Tryz.el197 : tyElem Tryz.prog 197 = none := by kernel_rfl
@[simp] theorem Tryz.ar197 : tyArr Tryz.prog 197 = some (9, 40) := by kernel_rfl
@[simp] theorem Tryz.pl197 : tyPlaces Tryz.prog 197 = some (.inr 2) := by kernel_rfl
@[simp] theorem Tryz.gu197 : Tryz.prog.eqGuardType Tryz.prog.depth 197 = false := by kernel_rfl
@[simp] theorem Tryz.sz198 : tySize Tryz.prog 198 = some 1 := by kernel_rfl
@[simp] theorem Tryz.by198 : tyBytes Tryz.prog 198 = some 8 := by kernel_rfl
@[simp] theorem Tryz.ze198 : tyZero Tryz.prog 198 = some [.nilfn] := by kernel_rfl
@[simp] theorem Tryz.zv198 : tyZeroV Tryz.prog 198 = some (.nilfn) := by kernel_rfl
@[simp] theorem Tryz.ag198 : tyAgg Tryz.prog 198 = some false := by kernel_rfl
@[simp] theorem Tryz.if198 : tyIface Tryz.prog 198 = some false := by kernel_rfl
attribute [simp] Tryz.underlying198
@[simp] theorem Tryz.th198 : (Tryz.prog.underlying 198).isSome = true := by kernel_rfl
@[simp] theorem Tryz.st198 : tyStr Tryz.prog 198 = false := by kernel_rfl
@[simp] theorem Tryz.in198 : tyInt Tryz.prog 198 = none := by kernel_rfl
@[simp] theorem Tryz.el198 : tyElem Tryz.prog 198 = none := by kernel_rfl
@[simp] theorem Tryz.ar198 : tyArr Tryz.prog 198 = none := by kernel_rfl
@[simp] theorem Tryz.sz199 : tySize Tryz.prog 199 = some 1 := by kernel_rfl
@[simp] theorem Tryz.by199 : tyBytes Tryz.prog 199 = some 8 := by kernel_rfl
@[simp] theorem Tryz.ze199 : tyZero Tryz.prog 199 = some [.nilfn] := by kernel_rfl
@[simp] theorem Tryz.zv199 : tyZeroV Tryz.prog 199 = some (.nilfn) := by kernel_rfl
@[simp] theorem Tryz.ag199 : tyAgg Tryz.prog 199 = some false := by kernel_rfl
@[simp] theorem Tryz.if199 : tyIface Tryz.prog 199 = some false := by kernel_rfl
attribute [simp] Tryz.underlying199
@[simp] theorem Tryz.th199 : (Tryz.prog.underlying 199).isSome = true := by kernel_rfl
@[simp] theorem Tryz.st199 : tyStr Tryz.prog 199 = false := by kernel_rfl
@[simp] theorem Tryz.in199 : tyInt Tryz.prog 199 = none := by kernel_rfl
@[simp] theorem Tryz.el199 : tyElem Tryz.prog 199 = none := by kernel_rfl
@[simp] theorem Tryz.ar199 : tyArr Tryz.prog 199 = none := by kernel_rfl
@[simp] theorem Tryz.sz200 : tySize Tryz.prog 200 = some 1 := by kernel_rfl
@[simp] theorem Tryz.by200 : tyBytes Tryz.prog 200 = some 8 := by kernel_rfl
@[simp] theorem Tryz.ze200 : tyZero Tryz.prog 200 = some [.nilfn] := by kernel_rfl
@[simp] theorem Tryz.zv200 : tyZeroV Tryz.prog 200 = some (.nilfn) := by kernel_rfl
@[simp] theorem Tryz.ag200 : tyAgg Tryz.prog 200 = some false := by kernel_rfl
@[simp] theorem Tryz.if200 : tyIface Tryz.prog 200 = some false := by kernel_rfl
attribute [simp] Tryz.underlying200
@[simp] theorem Tryz.th200 : (Tryz.prog.underlying 200).isSome = true := by kernel_rfl
@[simp] theorem Tryz.st200 : tyStr Tryz.prog 200 = false := by kernel_rfl
@[simp] theorem Tryz.in200 : tyInt Tryz.prog 200 = none := by kernel_rfl
@[simp] theorem Tryz.el200 : tyElem Tryz.prog 200 = none := by kernel_rfl
@[simp] theorem Tryz.ar200 : tyArr Tryz.prog 200 = none := by kernel_rfl
@[simp] theorem Tryz.sz201 : tySize Tryz.prog 201 = some 1 := by kernel_rfl
@[simp] theorem Tryz.by201 : tyBytes Tryz.prog 201 = some 8 := by kernel_rfl
@[simp] theorem Tryz.ze201 : tyZero Tryz.prog 201 = some [.nilfn] := by kernel_rfl
@[simp] theorem Tryz.zv201 : tyZeroV Tryz.prog 201 = some (.nilfn) := by kernel_rfl
@[simp] theorem Tryz.ag201 : tyAgg Tryz.prog 201 = some false := by kernel_rfl
@[simp] theorem Tryz.if201 : tyIface Tryz.prog 201 = some false := by kernel_rfl
attribute [simp] Tryz.underlying201
@[simp] theorem Tryz.th201 : (Tryz.prog.underlying 201).isSome = true := by kernel_rfl
@[simp] theorem Tryz.st201 : tyStr Tryz.prog 201 = false := by kernel_rfl
@[simp] theorem Tryz.in201 : tyInt Tryz.prog 201 = none := by kernel_rfl
@[simp] theorem Tryz.el201 : tyElem Tryz.prog 201 = none := by kernel_rfl
@[simp] theorem Tryz.ar201 : tyArr Tryz.prog 201 = none := by kernel_rfl
@[simp] theorem Tryz.sz202 : tySize Tryz.prog 202 = some 1 := by kernel_rfl
@[simp] theorem Tryz.by202 : tyBytes Tryz.prog 202 = some 8 := by kernel_rfl
@[simp] theorem Tryz.ze202 : tyZero Tryz.prog 202 = some [.nilfn] := by kernel_rfl
@[simp] theorem Tryz.zv202 : tyZeroV Tryz.prog 202 = some (.nilfn) := by kernel_rfl
@[simp] theorem Tryz.ag202 : tyAgg Tryz.prog 202 = some false := by kernel_rfl
@[simp] theorem Tryz.if202 : tyIface Tryz.prog 202 = some false := by kernel_rfl
attribute [simp] Tryz.underlying202
@[simp] theorem Tryz.th202 : (Tryz.prog.underlying 202).isSome = true := by kernel_rfl
@[simp] theorem Tryz.st202 : tyStr Tryz.prog 202 = false := by kernel_rfl
@[simp] theorem Tryz.in202 : tyInt Tryz.prog 202 = none := by kernel_rfl
@[simp] theorem Tryz.el202 : tyElem Tryz.prog 202 = none := by kernel_rfl
@[simp] theorem Tryz.ar202 : tyArr Tryz.prog 202 = none := by kernel_rfl
@[simp] theorem Tryz.sz203 : tySize Tryz.prog 203 = some 1 := by kernel_rfl
@[simp] theorem Tryz.by203 : tyBytes Tryz.prog 203 = some 8 := by kernel_rfl
@[simp] theorem Tryz.ze203 : tyZero Tryz.prog 203 = some [.nilfn] := by kernel_rfl
@[simp] theorem Tryz.zv203 : tyZeroV Tryz.prog 203 = some (.nilfn) := by kernel_rfl
@[simp] theorem Tryz.ag203 : tyAgg Tryz.prog 203 = some false := by kernel_rfl
@[simp] theorem Tryz.if203 : tyIface Tryz.prog 203 = some false := by kernel_rfl
attribute [simp] Tryz.underlying203
@[simp] theorem Tryz.th203 : (Tryz.prog.underlying 203).isSome = true := by kernel_rfl
@[simp] theorem Tryz.st203 : tyStr Tryz.prog 203 = false := by kernel_rfl
@[simp] theorem Tryz.in203 : tyInt Tryz.prog 203 = none := by kernel_rfl
@[simp] theorem Tryz.el203 : tyElem Tryz.prog 203 = none := by kernel_rfl
@[simp] theorem Tryz.ar203 : tyArr Tryz.prog 203 = none := by kernel_rfl
@[simp] theorem Tryz.sz204 : tySize Tryz.prog 204 = some 1 := by kernel_rfl
@[simp] theorem Tryz.by204 : tyBytes Tryz.prog 204 = some 8 := by kernel_rfl
@[simp] theorem Tryz.ze204 : tyZero Tryz.prog 204 = some [.nilfn] := by kernel_rfl
@[simp] theorem Tryz.zv204 : tyZeroV Tryz.prog 204 = some (.nilfn) := by kernel_rfl
@[simp] theorem Tryz.ag204 : tyAgg Tryz.prog 204 = some false := by kernel_rfl
@[simp] theorem Tryz.if204 : tyIface Tryz.prog 204 = some false := by kernel_rfl
attribute [simp] Tryz.underlying204
@[simp] theorem Tryz.th204 : (Tryz.prog.underlying 204).isSome = true := by kernel_rfl
@[simp] theorem Tryz.st204 : tyStr Tryz.prog 204 = false := by kernel_rfl
@[simp] theorem Tryz.in204 : tyInt Tryz.prog 204 = none := by kernel_rfl
@[simp] theorem Tryz.el204 : tyElem Tryz.prog 204 = none := by kernel_rfl
@[simp] theorem Tryz.ar204 : tyArr Tryz.prog 204 = none := by kernel_rfl
@[simp] theorem Tryz.sz205 : tySize Tryz.prog 205 = some 1 := by kernel_rfl
@[simp] theorem Tryz.by205 : tyBytes Tryz.prog 205 = some 8 := by kernel_rfl
@[simp] theorem Tryz.ze205 : tyZero Tryz.prog 205 = some [.nilfn] := by kernel_rfl
@[simp] theorem Tryz.zv205 : tyZeroV Tryz.prog 205 = some (.nilfn) := by kernel_rfl
@[simp] theorem Tryz.ag205 : tyAgg Tryz.prog 205 = some false := by kernel_rfl
@[simp] theorem Tryz.if205 : tyIface Tryz.prog 205 = some false := by kernel_rfl
attribute [simp] Tryz.underlying205
@[simp] theorem Tryz.th205 : (Tryz.prog.underlying 205).isSome = true := by kernel_rfl
@[simp] theorem Tryz.st205 : tyStr Tryz.prog 205 = false := by kernel_rfl
@[simp] theorem Tryz.in205 : tyInt Tryz.prog 205 = none := by kernel_rfl
@[simp] theorem Tryz.el205 : tyElem Tryz.prog 205 = none := by kernel_rfl
@[simp] theorem Tryz.ar205 : tyArr Tryz.prog 205 = none := by kernel_rfl
@[simp] theorem Tryz.sz206 : tySize Tryz.prog 206 = some 1 := by kernel_rfl
@[simp] theorem Tryz.by206 : tyBytes Tryz.prog 206 = some 8 := by kernel_rfl
@[simp] theorem Tryz.ze206 : tyZero Tryz.prog 206 = some [.nilfn] := by kernel_rfl
@[simp] theorem Tryz.zv206 : tyZeroV Tryz.prog 206 = some (.nilfn) := by kernel_rfl
@[simp] theorem Tryz.ag206 : tyAgg Tryz.prog 206 = some false := by kernel_rfl
@[simp] theorem Tryz.if206 : tyIface Tryz.prog 206 = some false := by kernel_rfl
attribute [simp] Tryz.underlying206
@[simp] theorem Tryz.th206 : (Tryz.prog.underlying 206).isSome = true := by kernel_rfl
@[simp] theorem Tryz.st206 : tyStr Tryz.prog 206 = false := by kernel_rfl
@[simp] theorem Tryz.in206 : tyInt Tryz.prog 206 = none := by kernel_rfl
@[simp] theorem Tryz.el206 : tyElem Tryz.prog 206 = none := by kernel_rfl
@[simp] theorem Tryz.ar206 : tyArr Tryz.prog 206 = none := by kernel_rfl
@[simp] theorem Tryz.sz207 : tySize Tryz.prog 207 = some 1 := by kernel_rfl
@[simp] theorem Tryz.by207 : tyBytes Tryz.prog 207 = some 8 := by kernel_rfl
@[simp] theorem Tryz.ze207 : tyZero Tryz.prog 207 = some [.nilfn] := by kernel_rfl
@[simp] theorem Tryz.zv207 : tyZeroV Tryz.prog 207 = some (.nilfn) := by kernel_rfl
@[simp] theorem Tryz.ag207 : tyAgg Tryz.prog 207 = some false := by kernel_rfl
@[simp] theorem Tryz.if207 : tyIface Tryz.prog 207 = some false := by kernel_rfl
attribute [simp] Tryz.underlying207
@[simp] theorem Tryz.th207 : (Tryz.prog.underlying 207).isSome = true := by kernel_rfl
@[simp] theorem Tryz.st207 : tyStr Tryz.prog 207 = false := by kernel_rfl
@[simp] theorem Tryz.in207 : tyInt Tryz.prog 207 = none := by kernel_rfl
@[simp] theorem Tryz.el207 : tyElem Tryz.prog 207 = none := by kernel_rfl
@[simp] theorem Tryz.ar207 : tyArr Tryz.prog 207 = none := by kernel_rfl
@[simp] theorem Tryz.sz210 : tySize Tryz.prog 210 = some 0 := by kernel_rfl
@[simp] theorem Tryz.by210 : tyBytes Tryz.prog 210 = some 0 := by kernel_rfl
@[simp] theorem Tryz.ze210 : tyZero Tryz.prog 210 = some [] := by kernel_rfl
@[simp] theorem Tryz.zv210 : tyZeroV Tryz.prog 210 = some (.agg []) := by kernel_rfl
@[simp] theorem Tryz.ag210 : tyAgg Tryz.prog 210 = some true := by kernel_rfl
@[simp] theorem Tryz.if210 : tyIface Tryz.prog 210 = some false := by kernel_rfl
attribute [simp] Tryz.underlying210
@[simp] theorem Tryz.th210 : (Tryz.prog.underlying 210).isSome = true := by kernel_rfl
@[simp] theorem Tryz.st210 : tyStr Tryz.prog 210 = false := by kernel_rfl
@[simp] theorem Tryz.in210 : tyInt Tryz.prog 210 = none := by kernel_rfl
@[simp] theorem Tryz.el210 : tyElem Tryz.prog 210 = none := by kernel_rfl
@[simp] theorem Tryz.ar210 : tyArr Tryz.prog 210 = some (0, 16) := by kernel_rfl
@[simp] theorem Tryz.pl210 : tyPlaces Tryz.prog 210 = some (.inr 1) := by kernel_rfl
@[simp] theorem Tryz.gu210 : Tryz.prog.eqGuardType Tryz.prog.depth 210 = false := by kernel_rfl
@[simp] theorem Tryz.sz214 : tySize Tryz.prog 214 = some 1 := by kernel_rfl
@[simp] theorem Tryz.by214 : tyBytes Tryz.prog 214 = some 4 := by kernel_rfl
@[simp] theorem Tryz.ze214 : tyZero Tryz.prog 214 = some [.int .u32 0] := by kernel_rfl
@[simp] theorem Tryz.zv214 : tyZeroV Tryz.prog 214 = some (.int .u32 0) := by kernel_rfl
@[simp] theorem Tryz.ag214 : tyAgg Tryz.prog 214 = some false := by kernel_rfl
@[simp] theorem Tryz.if214 : tyIface Tryz.prog 214 = some false := by kernel_rfl
attribute [simp] Tryz.underlying214
@[simp] theorem Tryz.th214 : (Tryz.prog.underlying 214).isSome = true := by kernel_rfl
@[simp] theorem Tryz.st214 : tyStr Tryz.prog 214 = false := by kernel_rfl
@[simp] theorem Tryz.in214 : tyInt Tryz.prog 214 = some .u32 := by kernel_rfl
@[simp] theorem Tryz.el214 : tyElem Tryz.prog 214 = none := by kernel_rfl
@[simp] theorem Tryz.ar214 : tyArr Tryz.prog 214 = none := by kernel_rfl
@[simp] theorem Tryz.sz217 : tySize Tryz.prog 217 = some 1 := by kernel_rfl
@[simp] theorem Tryz.by217 : tyBytes Tryz.prog 217 = some 8 := by kernel_rfl
@[simp] theorem Tryz.ze217 : tyZero Tryz.prog 217 = some [.nilptr] := by kernel_rfl
@[simp] theorem Tryz.zv217 : tyZeroV Tryz.prog 217 = some (.nilptr) := by kernel_rfl
@[simp] theorem Tryz.ag217 : tyAgg Tryz.prog 217 = some false := by kernel_rfl
@[simp] theorem Tryz.if217 : tyIface Tryz.prog 217 = some false := by kernel_rfl
attribute [simp] Tryz.underlying217
@[simp] theorem Tryz.th217 : (Tryz.prog.underlying 217).isSome = true := by kernel_rfl
@[simp] theorem Tryz.st217 : tyStr Tryz.prog 217 = false := by kernel_rfl
@[simp] theorem Tryz.in217 : tyInt Tryz.prog 217 = none := by kernel_rfl
@[simp] theorem Tryz.el217 : tyElem Tryz.prog 217 = none := by kernel_rfl
@[simp] theorem Tryz.ar217 : tyArr Tryz.prog 217 = none := by kernel_rfl
@[simp] theorem Tryz.sz222 : tySize Tryz.prog 222 = some 1 := by kernel_rfl
@[simp] theorem Tryz.by222 : tyBytes Tryz.prog 222 = some 8 := by kernel_rfl
@[simp] theorem Tryz.ze222 : tyZero Tryz.prog 222 = some [.nilfn] := by kernel_rfl
@[simp] theorem Tryz.zv222 : tyZeroV Tryz.prog 222 = some (.nilfn) := by kernel_rfl
@[simp] theorem Tryz.ag222 : tyAgg Tryz.prog 222 = some false := by kernel_rfl
@[simp] theorem Tryz.if222 : tyIface Tryz.prog 222 = some false := by kernel_rfl
attribute [simp] Tryz.underlying222
@[simp] theorem Tryz.th222 : (Tryz.prog.underlying 222).isSome = true := by kernel_rfl
@[simp] theorem Tryz.st222 : tyStr Tryz.prog 222 = false := by kernel_rfl
@[simp] theorem Tryz.in222 : tyInt Tryz.prog 222 = none := by kernel_rfl
@[simp] theorem Tryz.el222 : tyElem Tryz.prog 222 = none := by kernel_rfl
@[simp] theorem Tryz.ar222 : tyArr Tryz.prog 222 = none := by kernel_rfl
@[simp] theorem Tryz.sz234 : tySize Tryz.prog 234 = some 1 := by kernel_rfl
@[simp] theorem Tryz.by234 : tyBytes Tryz.prog 234 = some 8 := by kernel_rfl
@[simp] theorem Tryz.ze234 : tyZero Tryz.prog 234 = some [.nilptr] := by kernel_rfl
@[simp] theorem Tryz.zv234 : tyZeroV Tryz.prog 234 = some (.nilptr) := by kernel_rfl
@[simp] theorem Tryz.ag234 : tyAgg Tryz.prog 234 = some false := by kernel_rfl
@[simp] theorem Tryz.if234 : tyIface Tryz.prog 234 = some false := by kernel_rfl
attribute [simp] Tryz.underlying234
@[simp] theorem Tryz.th234 : (Tryz.prog.underlying 234).isSome = true := by kernel_rfl
@[simp] theorem Tryz.st234 : tyStr Tryz.prog 234 = false := by kernel_rfl
@[simp] theorem Tryz.in234 : tyInt Tryz.prog 234 = none := by kernel_rfl
@[simp] theorem Tryz.el234 : tyElem Tryz.prog 234 = none := by kernel_rfl
@[simp] theorem Tryz.ar234 : tyArr Tryz.prog 234 = none := by kernel_rfl
theorem Tryz.en3 : enters Tryz.prog 3 = true := by kernel_rfl
theorem Tryz.en4 : enters Tryz.prog 4 = true := by kernel_rfl
theorem Tryz.en5 : enters Tryz.prog 5 = true := by kernel_rfl
theorem Tryz.en6 : enters Tryz.prog 6 = true := by kernel_rfl
theorem Tryz.en7 : enters Tryz.prog 7 = true := by kernel_rfl
theorem Tryz.en8 : enters Tryz.prog 8 = true := by kernel_rfl
theorem Tryz.en9 : enters Tryz.prog 9 = true := by kernel_rfl
theorem Tryz.en10 : enters Tryz.prog 10 = true := by kernel_rfl
theorem Tryz.en11 : enters Tryz.prog 11 = true := by kernel_rfl
theorem Tryz.en12 : enters Tryz.prog 12 = true := by kernel_rfl
theorem Tryz.en13 : enters Tryz.prog 13 = true := by kernel_rfl
theorem Tryz.en14 : enters Tryz.prog 14 = true := by kernel_rfl
theorem Tryz.en15 : enters Tryz.prog 15 = true := by kernel_rfl
theorem Tryz.en16 : enters Tryz.prog 16 = true := by kernel_rfl
theorem Tryz.en17 : enters Tryz.prog 17 = true := by kernel_rfl
theorem Tryz.en18 : enters Tryz.prog 18 = true := by kernel_rfl
theorem Tryz.en19 : enters Tryz.prog 19 = true := by kernel_rfl
theorem Tryz.en20 : enters Tryz.prog 20 = true := by kernel_rfl
theorem Tryz.en21 : enters Tryz.prog 21 = true := by kernel_rfl
theorem Tryz.en22 : enters Tryz.prog 22 = true := by kernel_rfl
theorem Tryz.en23 : enters Tryz.prog 23 = true := by kernel_rfl
theorem Tryz.en24 : enters Tryz.prog 24 = true := by kernel_rfl
theorem Tryz.en25 : enters Tryz.prog 25 = true := by kernel_rfl
theorem Tryz.en26 : enters Tryz.prog 26 = true := by kernel_rfl
theorem Tryz.en27 : enters Tryz.prog 27 = true := by kernel_rfl
theorem Tryz.en28 : enters Tryz.prog 28 = true := by kernel_rfl
theorem Tryz.en29 : enters Tryz.prog 29 = true := by kernel_rfl
theorem Tryz.en30 : enters Tryz.prog 30 = true := by kernel_rfl
theorem Tryz.en31 : enters Tryz.prog 31 = true := by kernel_rfl
theorem Tryz.en32 : enters Tryz.prog 32 = true := by kernel_rfl
theorem Tryz.en33 : enters Tryz.prog 33 = true := by kernel_rfl
theorem Tryz.en34 : enters Tryz.prog 34 = true := by kernel_rfl
theorem Tryz.en35 : enters Tryz.prog 35 = true := by kernel_rfl
theorem Tryz.en36 : enters Tryz.prog 36 = true := by kernel_rfl
theorem Tryz.en37 : enters Tryz.prog 37 = true := by kernel_rfl
theorem Tryz.en38 : enters Tryz.prog 38 = true := by kernel_rfl
theorem Tryz.en39 : enters Tryz.prog 39 = true := by kernel_rfl
theorem Tryz.en40 : enters Tryz.prog 40 = true := by kernel_rfl
theorem Tryz.en41 : enters Tryz.prog 41 = true := by kernel_rfl
theorem Tryz.en42 : enters Tryz.prog 42 = true := by kernel_rfl
theorem Tryz.en43 : enters Tryz.prog 43 = true := by kernel_rfl
theorem Tryz.en44 : enters Tryz.prog 44 = true := by kernel_rfl
theorem Tryz.en45 : enters Tryz.prog 45 = true := by kernel_rfl
theorem Tryz.en46 : enters Tryz.prog 46 = true := by kernel_rfl
theorem Tryz.en47 : enters Tryz.prog 47 = true := by kernel_rfl
theorem Tryz.en48 : enters Tryz.prog 48 = true := by kernel_rfl
theorem Tryz.en49 : enters Tryz.prog 49 = true := by kernel_rfl
theorem Tryz.en50 : enters Tryz.prog 50 = true := by kernel_rfl
theorem Tryz.en51 : enters Tryz.prog 51 = true := by kernel_rfl
theorem Tryz.en52 : enters Tryz.prog 52 = true := by kernel_rfl
theorem Tryz.en53 : enters Tryz.prog 53 = true := by kernel_rfl
theorem Tryz.en54 : enters Tryz.prog 54 = true := by kernel_rfl
theorem Tryz.en55 : enters Tryz.prog 55 = true := by kernel_rfl
theorem Tryz.en56 : enters Tryz.prog 56 = true := by kernel_rfl
theorem Tryz.en57 : enters Tryz.prog 57 = true := by kernel_rfl
theorem Tryz.en58 : enters Tryz.prog 58 = true := by kernel_rfl
theorem Tryz.en59 : enters Tryz.prog 59 = true := by kernel_rfl
theorem Tryz.en60 : enters Tryz.prog 60 = true := by kernel_rfl
theorem Tryz.en61 : enters Tryz.prog 61 = true := by kernel_rfl
theorem Tryz.en62 : enters Tryz.prog 62 = true := by kernel_rfl
theorem Tryz.en63 : enters Tryz.prog 63 = true := by kernel_rfl
theorem Tryz.en64 : enters Tryz.prog 64 = true := by kernel_rfl
theorem Tryz.en65 : enters Tryz.prog 65 = true := by kernel_rfl
theorem Tryz.en66 : enters Tryz.prog 66 = true := by kernel_rfl
theorem Tryz.en67 : enters Tryz.prog 67 = true := by kernel_rfl
theorem Tryz.en68 : enters Tryz.prog 68 = true := by kernel_rfl
theorem Tryz.en69 : enters Tryz.prog 69 = true := by kernel_rfl
theorem Tryz.en70 : enters Tryz.prog 70 = true := by kernel_rfl
theorem Tryz.en71 : enters Tryz.prog 71 = true := by kernel_rfl
theorem Tryz.en72 : enters Tryz.prog 72 = true := by kernel_rfl
theorem Tryz.en73 : enters Tryz.prog 73 = true := by kernel_rfl
theorem Tryz.en74 : enters Tryz.prog 74 = true := by kernel_rfl
theorem Tryz.en75 : enters Tryz.prog 75 = true := by kernel_rfl
theorem Tryz.en76 : enters Tryz.prog 76 = true := by kernel_rfl
theorem Tryz.en77 : enters Tryz.prog 77 = true := by kernel_rfl
theorem Tryz.en78 : enters Tryz.prog 78 = true := by kernel_rfl
theorem Tryz.en79 : enters Tryz.prog 79 = true := by kernel_rfl
theorem Tryz.en80 : enters Tryz.prog 80 = true := by kernel_rfl
theorem Tryz.en81 : enters Tryz.prog 81 = true := by kernel_rfl
theorem Tryz.en82 : enters Tryz.prog 82 = true := by kernel_rfl
theorem Tryz.en83 : enters Tryz.prog 83 = true := by kernel_rfl
theorem Tryz.en84 : enters Tryz.prog 84 = true := by kernel_rfl
theorem Tryz.en88 : enters Tryz.prog 88 = true := by kernel_rfl
theorem Tryz.en89 : enters Tryz.prog 89 = true := by kernel_rfl
theorem Tryz.en90 : enters Tryz.prog 90 = true := by kernel_rfl
theorem Tryz.en91 : enters Tryz.prog 91 = true := by kernel_rfl
theorem Tryz.en92 : enters Tryz.prog 92 = true := by kernel_rfl
theorem Tryz.en93 : enters Tryz.prog 93 = true := by kernel_rfl
theorem Tryz.en94 : enters Tryz.prog 94 = true := by kernel_rfl
theorem Tryz.en95 : enters Tryz.prog 95 = true := by kernel_rfl
theorem Tryz.en96 : enters Tryz.prog 96 = true := by kernel_rfl
theorem Tryz.en97 : enters Tryz.prog 97 = true := by kernel_rfl
theorem Tryz.en98 : enters Tryz.prog 98 = true := by kernel_rfl
theorem Tryz.en99 : enters Tryz.prog 99 = true := by kernel_rfl
theorem Tryz.en100 : enters Tryz.prog 100 = true := by kernel_rfl
theorem Tryz.en101 : enters Tryz.prog 101 = true := by kernel_rfl
theorem Tryz.en102 : enters Tryz.prog 102 = true := by kernel_rfl
theorem Tryz.en103 : enters Tryz.prog 103 = true := by kernel_rfl
theorem Tryz.en104 : enters Tryz.prog 104 = true := by kernel_rfl
theorem Tryz.en105 : enters Tryz.prog 105 = true := by kernel_rfl
theorem Tryz.en106 : enters Tryz.prog 106 = true := by kernel_rfl
theorem Tryz.en107 : enters Tryz.prog 107 = true := by kernel_rfl
theorem Tryz.en108 : enters Tryz.prog 108 = true := by kernel_rfl
theorem Tryz.en109 : enters Tryz.prog 109 = true := by kernel_rfl
theorem Tryz.en110 : enters Tryz.prog 110 = true := by kernel_rfl
theorem Tryz.en114 : enters Tryz.prog 114 = true := by kernel_rfl
theorem Tryz.en115 : enters Tryz.prog 115 = true := by kernel_rfl
theorem Tryz.en116 : enters Tryz.prog 116 = true := by kernel_rfl
theorem Tryz.en117 : enters Tryz.prog 117 = true := by kernel_rfl
theorem Tryz.en118 : enters Tryz.prog 118 = true := by kernel_rfl
theorem Tryz.en119 : enters Tryz.prog 119 = true := by kernel_rfl
theorem Tryz.en120 : enters Tryz.prog 120 = true := by kernel_rfl
theorem Tryz.en121 : enters Tryz.prog 121 = true := by kernel_rfl
theorem Tryz.en122 : enters Tryz.prog 122 = true := by kernel_rfl
theorem Tryz.en123 : enters Tryz.prog 123 = true := by kernel_rfl
theorem Tryz.en124 : enters Tryz.prog 124 = true := by kernel_rfl
theorem Tryz.en125 : enters Tryz.prog 125 = true := by kernel_rfl
theorem Tryz.en126 : enters Tryz.prog 126 = true := by kernel_rfl
theorem Tryz.en127 : enters Tryz.prog 127 = true := by kernel_rfl
theorem Tryz.en128 : enters Tryz.prog 128 = true := by kernel_rfl
theorem Tryz.en129 : enters Tryz.prog 129 = true := by kernel_rfl
theorem Tryz.en130 : enters Tryz.prog 130 = true := by kernel_rfl
theorem Tryz.en131 : enters Tryz.prog 131 = true := by kernel_rfl
theorem Tryz.en132 : enters Tryz.prog 132 = true := by kernel_rfl
theorem Tryz.en133 : enters Tryz.prog 133 = true := by kernel_rfl
theorem Tryz.en134 : enters Tryz.prog 134 = true := by kernel_rfl
theorem Tryz.en135 : enters Tryz.prog 135 = true := by kernel_rfl
theorem Tryz.en136 : enters Tryz.prog 136 = true := by kernel_rfl
theorem Tryz.en137 : enters Tryz.prog 137 = true := by kernel_rfl
theorem Tryz.en138 : enters Tryz.prog 138 = true := by kernel_rfl
theorem Tryz.en139 : enters Tryz.prog 139 = true := by kernel_rfl
theorem Tryz.en140 : enters Tryz.prog 140 = true := by kernel_rfl
theorem Tryz.en141 : enters Tryz.prog 141 = true := by kernel_rfl
theorem Tryz.en142 : enters Tryz.prog 142 = true := by kernel_rfl
theorem Tryz.en143 : enters Tryz.prog 143 = true := by kernel_rfl
theorem Tryz.en144 : enters Tryz.prog 144 = true := by kernel_rfl
theorem Tryz.en145 : enters Tryz.prog 145 = true := by kernel_rfl
theorem Tryz.en146 : enters Tryz.prog 146 = true := by kernel_rfl
theorem Tryz.en147 : enters Tryz.prog 147 = true := by kernel_rfl
theorem Tryz.en184 : enters Tryz.prog 184 = true := by kernel_rfl
theorem Tryz.mixed : Tryz.prog.follows .mixedOrders = true := by kernel_rfl
end Go.Proofs
