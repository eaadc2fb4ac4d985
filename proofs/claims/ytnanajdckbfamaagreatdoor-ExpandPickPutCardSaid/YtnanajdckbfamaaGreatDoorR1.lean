/- What the laws' arguments are read as. -/
import Derived.Test.YtnanajdckbfamaaGreatDoorX20
import Derived.Test.YtnanajdckbfamaaGreatDoorMB
import Derived.Test.YtnanajdckbfamaaGreatDoorRows
set_option linter.unusedVariables false
namespace Go.Proofs
open Go Go.Abs
theorem Tryz.own : ownKnob Tryz.prog.godebug = none := by kernel_rfl
theorem Tryz.laidOut : laidOutB Tryz.prog = true := by kernel_rfl
theorem _root_.Go.Abs.Reads.mapW {P : Program} {t : TypeId} {α β : Type} {c : α → List AV} {w : α → Prop} {c' : β → List AV} {w' : β → Prop} (h : Reads P t c w) (f : α → β) (hc : ∀ a, w a → c' (f a) = c a) (hw : ∀ a, w a → w' (f a)) : Reads P t c' w' := ⟨fun hx => by
  obtain ⟨a, ha, hv⟩ := h.read hx
  exact ⟨f a, hw a ha, by rw [hc a ha]; exact hv⟩⟩
theorem readsInt : Reads Tryz.prog 3 (fun n : Int => [.int .i64 n]) (fun _ => True) := (Reads.int Tryz.underlying3).map id (fun _ => rfl) (fun _ _ => trivial)
theorem readsU8 : Reads Tryz.prog 5 (fun n : Nat => [.int .u8 n]) (fun n => n < 256) := (Reads.int Tryz.underlying5).mapW Int.toNat (fun a h => by
    simp [IntKind.min, IntKind.max, IntKind.signed, IntKind.bits] at h
    rw [Int.toNat_of_nonneg h.1]) (fun a h => by
    simp [IntKind.min, IntKind.max, IntKind.signed, IntKind.bits] at h; omega)
theorem readsU16 : Reads Tryz.prog 73 (fun n : Nat => [.int .u16 n]) (fun n => n < 65536) := (Reads.int Tryz.underlying73).mapW Int.toNat (fun a h => by
    simp [IntKind.min, IntKind.max, IntKind.signed, IntKind.bits] at h
    rw [Int.toNat_of_nonneg h.1]) (fun a h => by
    simp [IntKind.min, IntKind.max, IntKind.signed, IntKind.bits] at h; omega)
def fld (t : TypeId) (o : Nat) : Field := { name := "", type := t, offset := o, embedded := false, tag := "", pkgPath := "", byteOffset := 0 }
theorem fld3 {e k : Nat} (i : Nat) (f : Field) (h : [fld e 0, fld e (1 * k), fld e (2 * k)][i]? = some f) : f.type = e ∧ f.offset = i * k := by
  match i, h with
  | 0, h => cases h; exact ⟨rfl, (Nat.zero_mul k).symm⟩
  | 1, h => cases h; exact ⟨rfl, rfl⟩
  | 2, h => cases h; exact ⟨rfl, rfl⟩
theorem fld2 {e k : Nat} (i : Nat) (f : Field) (h : [fld e 0, fld e (1 * k)][i]? = some f) : f.type = e ∧ f.offset = i * k := by
  match i, h with
  | 0, h => cases h; exact ⟨rfl, (Nat.zero_mul k).symm⟩
  | 1, h => cases h; exact ⟨rfl, rfl⟩
theorem arr3 {t e k : Nat} {α : Type} {c : α → List AV} {w : α → Prop} (ht : Tryz.prog.underlying t = some (.array 3 e)) (hk : Tryz.prog.cellsOf e = k) (hc : Tryz.prog.cellsOf t = 3 * k) (h : Reads Tryz.prog e c w) :
    Reads Tryz.prog t (fun x : α × α × α => c x.1 ++ c x.2.1 ++ c x.2.2) (fun x => w x.1 ∧ w x.2.1 ∧ w x.2.2) :=
  (Reads.array (fs := [fld e 0, fld e (1 * k), fld e (2 * k)]) (k := k) ht hk rfl fld3 (.cons (k := k) rfl hk h (.cons (k := k) (by show 1 * k = 0 + k; omega) hk h (.cons (k := k) (by show 2 * k = 0 + k + k; omega) hk h (.nil _)))) hc).map (fun x => (x.1, x.2.1, x.2.2.1)) (fun x => by simp) (fun x hx => ⟨hx.1, hx.2.1, hx.2.2.1⟩)
theorem arr2 {t e k : Nat} {α : Type} {c : α → List AV} {w : α → Prop} (ht : Tryz.prog.underlying t = some (.array 2 e)) (hk : Tryz.prog.cellsOf e = k) (hc : Tryz.prog.cellsOf t = 2 * k) (h : Reads Tryz.prog e c w) :
    Reads Tryz.prog t (fun x : α × α => c x.1 ++ c x.2) (fun x => w x.1 ∧ w x.2) :=
  (Reads.array (fs := [fld e 0, fld e (1 * k)]) (k := k) ht hk rfl fld2 (.cons (k := k) rfl hk h (.cons (k := k) (by show 1 * k = 0 + k; omega) hk h (.nil _))) hc).map (fun x => (x.1, x.2.1)) (fun x => by simp) (fun x hx => ⟨hx.1, hx.2.1⟩)
theorem readsJ3 : Reads Tryz.prog 25 J3.cells (fun _ => True) := (arr3 Tryz.underlying25 (k := 1) (by kernel_rfl) (by kernel_rfl) readsInt).map (fun x => (⟨x.1, x.2.1, x.2.2⟩ : J3)) (fun _ => rfl) (fun _ _ => trivial)
theorem readsL3 : Reads Tryz.prog 24 J3.cells (fun _ => True) := (arr3 Tryz.underlying24 (k := 1) (by kernel_rfl) (by kernel_rfl) readsInt).map (fun x => (⟨x.1, x.2.1, x.2.2⟩ : J3)) (fun _ => rfl) (fun _ _ => trivial)
theorem readsPt : Reads Tryz.prog 23 (fun v : V2 => [.int .i64 v.1, .int .i64 v.2]) (fun _ => True) :=
  (Reads.struct Tryz.underlying23 (.cons (k := 1) rfl (by kernel_rfl) readsInt (.cons (k := 1) rfl (by kernel_rfl) readsInt (.nil _))) (by kernel_rfl)).map (fun x => ((x.1, x.2.1) : V2)) (fun _ => rfl) (fun _ _ => trivial)
theorem readsDr : Reads Tryz.prog 66 (fun d : Dr => [.int .i64 d.x, .int .i64 d.y, .int .i64 d.n]) (fun _ => True) :=
  (Reads.struct Tryz.underlying66 (.cons (k := 1) rfl (by kernel_rfl) readsInt (.cons (k := 1) rfl (by kernel_rfl) readsInt (.cons (k := 1) rfl (by kernel_rfl) readsInt (.nil _)))) (by kernel_rfl)).map (fun x => (⟨x.1, x.2.1, x.2.2.1⟩ : Dr)) (fun _ => rfl) (fun _ _ => trivial)
theorem readsAr : Reads Tryz.prog 27 Ar.cells (fun _ => True) :=
  (Reads.struct Tryz.underlying27 (.cons (k := 2) rfl (by kernel_rfl) readsPt (.cons (k := 3) rfl (by kernel_rfl) readsL3 (.cons (k := 1) rfl (by kernel_rfl) readsInt (.cons (k := 3) rfl (by kernel_rfl) readsJ3 (.cons (k := 3) rfl (by kernel_rfl) readsJ3 (.nil _)))))) (by kernel_rfl)).map (fun x => (⟨x.1, x.2.1, x.2.2.1, x.2.2.2.1, x.2.2.2.2.1⟩ : Ar)) (fun _ => rfl) (fun _ _ => trivial)
theorem readsStr : Reads Tryz.prog 9 (fun s : ByteArray => [.str s]) (fun _ => True) := (Reads.string Tryz.underlying9).map id (fun _ => rfl) (fun _ _ => trivial)
theorem readsLim : Reads Tryz.prog 35 J3.cells (fun _ => True) :=
  (Reads.struct Tryz.underlying35 (.cons (k := 1) rfl (by kernel_rfl) readsInt (.cons (k := 1) rfl (by kernel_rfl) readsInt (.cons (k := 1) rfl (by kernel_rfl) readsInt (.nil _)))) (by kernel_rfl)).map (fun x => (⟨x.1, x.2.1, x.2.2.1⟩ : J3)) (fun _ => rfl) (fun _ _ => trivial)
theorem readsPoly : Reads Tryz.prog 77 (fun l : List V2 => [pav l]) (fun _ => True) := (Reads.slice Tryz.underlying77 (by kernel_rfl) (by omega) readsPt).map id (fun _ => rfl) (fun _ _ => trivial)
theorem readsPolys : Reads Tryz.prog 30 (fun l : List (List V2) => [.sl 1 (fcs l) .unk]) (fun _ => True) := (Reads.slice Tryz.underlying30 (by kernel_rfl) (by omega) readsPoly).map id (fun _ => rfl) (fun _ _ => trivial)
theorem readsZone : Reads Tryz.prog 103 (fun l : List V2 => [pav l]) (fun _ => True) := (Reads.struct Tryz.underlying103 (.cons (k := 1) rfl (by kernel_rfl) readsPoly (.nil _)) (by kernel_rfl)).map (fun x => x.1) (fun _ => rfl) (fun _ _ => trivial)
theorem readsZones : Reads Tryz.prog 36 (fun l : List (List V2) => [.sl 1 (fcs l) .unk]) (fun _ => True) := (Reads.slice Tryz.underlying36 (by kernel_rfl) (by omega) readsZone).map id (fun _ => rfl) (fun _ _ => trivial)
theorem readsPlace : Reads Tryz.prog 68 Pc.cells (fun _ => True) :=
  (Reads.struct Tryz.underlying68 (.cons (k := 1) rfl (by kernel_rfl) readsStr (.cons (k := 2) rfl (by kernel_rfl) readsPt (.cons (k := 3) rfl (by kernel_rfl) readsDr (.nil _)))) (by kernel_rfl)).map (fun x => (⟨x.1, x.2.1, x.2.2.1⟩ : Pc)) (fun _ => rfl) (fun _ _ => trivial)
theorem readsPlaces : Reads Tryz.prog 31 (fun l : List Pc => [.sl 6 (plcs l) .unk]) (fun _ => True) := (Reads.slice Tryz.underlying31 (by kernel_rfl) (by omega) readsPlace).map id (fun _ => rfl) (fun _ _ => trivial)
theorem readsPart : Reads Tryz.prog 79 Pt.cells (fun _ => True) :=
  (Reads.struct Tryz.underlying79 (.cons (k := 1) rfl (by kernel_rfl) readsStr (.cons (k := 1) rfl (by kernel_rfl) readsPoly (.cons (k := 1) rfl (by kernel_rfl) readsInt (.nil _)))) (by kernel_rfl)).map (fun x => (⟨x.1, x.2.1, x.2.2.1⟩ : Pt)) (fun _ => rfl) (fun _ _ => trivial)
theorem readsParts : Reads Tryz.prog 32 (fun l : List Pt => [.sl 3 (ptcs l) .unk]) (fun _ => True) := (Reads.slice Tryz.underlying32 (by kernel_rfl) (by omega) readsPart).map id (fun _ => rfl) (fun _ _ => trivial)
theorem readsInts : Reads Tryz.prog 33 (fun l : List Int => [.sl 1 (ics l) .unk]) (fun _ => True) := (Reads.slice Tryz.underlying33 (by kernel_rfl) (by omega) readsInt).map id (fun _ => rfl) (fun _ _ => trivial)
theorem readsAr2 : Reads Tryz.prog 28 (fun x : Ar × Ar => x.1.cells ++ x.2.cells) (fun _ => True) := (arr2 Tryz.underlying28 (k := 12) (by kernel_rfl) (by kernel_rfl) readsAr).map id (fun _ => rfl) (fun _ _ => trivial)
theorem readsQ2 : Reads Tryz.prog 29 (fun x : J3 × J3 => x.1.cells ++ x.2.cells) (fun _ => True) := (arr2 Tryz.underlying29 (k := 3) (by kernel_rfl) (by kernel_rfl) readsJ3).map id (fun _ => rfl) (fun _ _ => trivial)
theorem readsI2 : Reads Tryz.prog 40 (fun x : Int × Int => [.int .i64 x.1, .int .i64 x.2]) (fun _ => True) := (arr2 Tryz.underlying40 (k := 1) (by kernel_rfl) (by kernel_rfl) readsInt).map id (fun _ => rfl) (fun _ _ => trivial)
theorem readsCell : Reads Tryz.prog 38 Ce.cells (fun _ => True) :=
  (Reads.struct Tryz.underlying38 (.cons (k := 24) rfl (by kernel_rfl) readsAr2 (.cons (k := 6) rfl (by kernel_rfl) readsQ2 (.cons (k := 1) rfl (by kernel_rfl) readsPolys (.cons (k := 1) rfl (by kernel_rfl) readsPlaces (.cons (k := 1) rfl (by kernel_rfl) readsParts (.cons (k := 1) rfl (by kernel_rfl) readsInts (.cons (k := 1) rfl (by kernel_rfl) readsInt (.cons (k := 3) rfl (by kernel_rfl) readsLim (.cons (k := 3) rfl (by kernel_rfl) readsLim (.cons (k := 1) rfl (by kernel_rfl) readsZones (.cons (k := 1) rfl (by kernel_rfl) readsInt (.cons (k := 1) rfl (by kernel_rfl) readsInt (.nil _))))))))))))) (by kernel_rfl)).map
    (fun x => (⟨x.1.1, x.1.2, x.2.1.1, x.2.1.2, x.2.2.1, x.2.2.2.1, x.2.2.2.2.1, x.2.2.2.2.2.1, x.2.2.2.2.2.2.1, x.2.2.2.2.2.2.2.1, x.2.2.2.2.2.2.2.2.1, x.2.2.2.2.2.2.2.2.2.1, x.2.2.2.2.2.2.2.2.2.2.1, x.2.2.2.2.2.2.2.2.2.2.2.1⟩ : Ce)) (fun _ => rfl) (fun _ _ => trivial)
theorem readsState : Reads Tryz.prog 42 Ws.cells (fun _ => True) :=
  (Reads.struct Tryz.underlying42 (.cons (k := 6) rfl (by kernel_rfl) readsQ2 (.cons (k := 2) rfl (by kernel_rfl) readsI2 (.cons (k := 1) rfl (by kernel_rfl) readsInts (.nil _)))) (by kernel_rfl)).map (fun x => (⟨x.1.1, x.1.2, x.2.1.1, x.2.1.2, x.2.2.1⟩ : Ws)) (fun _ => rfl) (fun _ _ => trivial)
theorem readsStep : Reads Tryz.prog 44 Sp.cells (fun _ => True) :=
  (Reads.struct Tryz.underlying44 (.cons (k := 1) rfl (by kernel_rfl) readsInt (.cons (k := 1) rfl (by kernel_rfl) readsInt (.cons (k := 1) rfl (by kernel_rfl) readsInt (.cons (k := 1) rfl (by kernel_rfl) readsInt (.cons (k := 1) rfl (by kernel_rfl) readsInt (.cons (k := 6) rfl (by kernel_rfl) readsQ2 (.nil _))))))) (by kernel_rfl)).map (fun x => (⟨x.1, x.2.1, x.2.2.1, x.2.2.2.1, x.2.2.2.2.1, x.2.2.2.2.2.1.1, x.2.2.2.2.2.1.2⟩ : Sp)) (fun _ => rfl) (fun _ _ => trivial)
theorem readsB3 : Reads Tryz.prog 71 (fun x : Nat × Nat × Nat => [.int .u8 x.1, .int .u8 x.2.1, .int .u8 x.2.2]) (fun x => x.1 < 256 ∧ x.2.1 < 256 ∧ x.2.2 < 256) := (arr3 Tryz.underlying71 (k := 1) (by kernel_rfl) (by kernel_rfl) readsU8).map id (fun _ => rfl) (fun _ h => h)
theorem readsB6 : Reads Tryz.prog 72 (fun x : (Nat × Nat × Nat) × (Nat × Nat × Nat) => [.int .u8 x.1.1, .int .u8 x.1.2.1, .int .u8 x.1.2.2, .int .u8 x.2.1, .int .u8 x.2.2.1, .int .u8 x.2.2.2]) (fun x => (x.1.1 < 256 ∧ x.1.2.1 < 256 ∧ x.1.2.2 < 256) ∧ x.2.1 < 256 ∧ x.2.2.1 < 256 ∧ x.2.2.2 < 256) :=
  (arr2 Tryz.underlying72 (k := 3) (by kernel_rfl) (by kernel_rfl) readsB3).map id (fun _ => rfl) (fun _ h => h)
theorem readsWord : Reads Tryz.prog 75 Wd.cells WdOk :=
  (Reads.struct Tryz.underlying75 (.cons (k := 1) rfl (by kernel_rfl) readsU8 (.cons (k := 1) rfl (by kernel_rfl) readsU8 (.cons (k := 1) rfl (by kernel_rfl) readsU8 (.cons (k := 1) rfl (by kernel_rfl) readsU8 (.cons (k := 6) rfl (by kernel_rfl) readsB6 (.cons (k := 1) rfl (by kernel_rfl) readsU16 (.nil _))))))) (by kernel_rfl)).map
    (fun x => (⟨x.1, x.2.1, x.2.2.1, x.2.2.2.1, x.2.2.2.2.1.1.1, x.2.2.2.2.1.1.2.1, x.2.2.2.2.1.1.2.2, x.2.2.2.2.1.2.1, x.2.2.2.2.1.2.2.1, x.2.2.2.2.1.2.2.2, x.2.2.2.2.2.1⟩ : Wd)) (fun _ => rfl) (fun x h => by
      obtain ⟨h1, h2, h3, h4, ⟨⟨h5, h6, h7⟩, h8, h9, h10⟩, h11, _⟩ := h
      exact ⟨⟨h1, h2, h3, h4, h5, h6, h7, h8, h9, h10, h11⟩⟩)
theorem readsWords : Reads Tryz.prog 39 (fun l : List Wd => [.sl 11 (wdcs l) .unk]) (fun l => ∀ x ∈ l, WdOk x) := (Reads.slice Tryz.underlying39 (by kernel_rfl) (by omega) readsWord).map id (fun _ => rfl) (fun _ h => h.2)
theorem argCell : ArgReads Tryz.prog 38 Ce.av (fun _ => True) := readsCell.arg_agg Tryz.underlying38
theorem argState : ArgReads Tryz.prog 42 Ws.av (fun _ => True) := readsState.arg_agg Tryz.underlying42
theorem argStep : ArgReads Tryz.prog 44 Sp.av (fun _ => True) := readsStep.arg_agg Tryz.underlying44
theorem argWord : ArgReads Tryz.prog 75 Wd.av WdOk := readsWord.arg_agg Tryz.underlying75
theorem argWords : ArgReads Tryz.prog 39 (fun l : List Wd => .sl 11 (wdcs l) .unk) (fun l => ∀ x ∈ l, WdOk x) := readsWords.arg_slice Tryz.underlying39
theorem argU8 : ArgReads Tryz.prog 5 (fun n : Nat => .int .u8 n) (fun n => n < 256) := readsU8.arg_int Tryz.underlying5
end Go.Proofs
