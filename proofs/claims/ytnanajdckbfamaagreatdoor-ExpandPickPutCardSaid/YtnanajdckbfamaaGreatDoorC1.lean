/- Plain definitions of cells; walks of the reference's checks on names, numbers, shapes. -/
import Derived.Test.YtnanajdckbfamaaGreatDoorG2
set_option linter.unusedVariables false
set_option linter.unusedSimpArgs false
set_option maxRecDepth 100000
namespace Go.Proofs
open Go Go.Abs
attribute [local irreducible] wpc aSeq awAny endA guardK condK CallK callT aPlan onlyL takeL aeffK takeE loopG bodyA thenA inBlockA planK roundG assignG bodyI endI YieldK unrollG
structure Pc where
  name : ByteArray
  pos : V2
  dir : Dr
  deriving DecidableEq
structure Pt where
  name : ByteArray
  shape : List V2
  place : Int
  deriving DecidableEq
structure Ce where
  a0 : Ar
  a1 : Ar
  h0 : J3
  h1 : J3
  fix : List (List V2)
  places : List Pc
  parts : List Pt
  belt : List Int
  period : Int
  lim : J3
  loaded : J3
  zones : List (List V2)
  gap : Int
  slow : Int
  deriving DecidableEq
abbrev Pc.cells (p : Pc) : List AV := [.str p.name, .int .i64 p.pos.1, .int .i64 p.pos.2, .int .i64 p.dir.x, .int .i64 p.dir.y, .int .i64 p.dir.n]
abbrev Pt.cells (p : Pt) : List AV := [.str p.name, pav p.shape, .int .i64 p.place]
def fcs (l : List (List V2)) : List (List AV) := l.map fun p => [pav p]
def plcs (l : List Pc) : List (List AV) := l.map fun p => [.str p.name, .int .i64 p.pos.1, .int .i64 p.pos.2, .int .i64 p.dir.x, .int .i64 p.dir.y, .int .i64 p.dir.n]
def ptcs (l : List Pt) : List (List AV) := l.map fun p => [.str p.name, pav p.shape, .int .i64 p.place]
def ics (l : List Int) : List (List AV) := l.map fun n => [.int .i64 n]
def scs (l : List ByteArray) : List (List AV) := l.map fun s => [.str s]
abbrev Ce.cells (c : Ce) : List AV := [.int .i64 c.a0.base.1, .int .i64 c.a0.base.2, .int .i64 c.a0.lens.a, .int .i64 c.a0.lens.b, .int .i64 c.a0.lens.c, .int .i64 c.a0.wide, .int .i64 c.a0.low.a, .int .i64 c.a0.low.b, .int .i64 c.a0.low.c, .int .i64 c.a0.high.a, .int .i64 c.a0.high.b, .int .i64 c.a0.high.c,
  .int .i64 c.a1.base.1, .int .i64 c.a1.base.2, .int .i64 c.a1.lens.a, .int .i64 c.a1.lens.b, .int .i64 c.a1.lens.c, .int .i64 c.a1.wide, .int .i64 c.a1.low.a, .int .i64 c.a1.low.b, .int .i64 c.a1.low.c, .int .i64 c.a1.high.a, .int .i64 c.a1.high.b, .int .i64 c.a1.high.c,
  .int .i64 c.h0.a, .int .i64 c.h0.b, .int .i64 c.h0.c, .int .i64 c.h1.a, .int .i64 c.h1.b, .int .i64 c.h1.c,
  .sl 1 (fcs c.fix) .unk, .sl 6 (plcs c.places) .unk, .sl 3 (ptcs c.parts) .unk, .sl 1 (ics c.belt) .unk, .int .i64 c.period,
  .int .i64 c.lim.a, .int .i64 c.lim.b, .int .i64 c.lim.c, .int .i64 c.loaded.a, .int .i64 c.loaded.b, .int .i64 c.loaded.c, .sl 1 (fcs c.zones) .unk, .int .i64 c.gap, .int .i64 c.slow]
abbrev Ce.av (c : Ce) : AV := .agg c.cells
@[simp] theorem fcs_length (l : List (List V2)) : (fcs l).length = l.length := by simp [fcs]
@[simp] theorem plcs_length (l : List Pc) : (plcs l).length = l.length := by simp [plcs]
@[simp] theorem ptcs_length (l : List Pt) : (ptcs l).length = l.length := by simp [ptcs]
@[simp] theorem ics_length (l : List Int) : (ics l).length = l.length := by simp [ics]
@[simp] theorem scs_length (l : List ByteArray) : (scs l).length = l.length := by simp [scs]
def p0 : Pc := ⟨⟨#[]⟩, (0, 0), ⟨0, 0, 0⟩⟩
def t0 : Pt := ⟨⟨#[]⟩, [], 0⟩
def iat (l : List Int) (i : Nat) : Int := l.getD i 0
def sat (l : List ByteArray) (i : Nat) : ByteArray := l.getD i ⟨#[]⟩
def fat (l : List (List V2)) (i : Nat) : List V2 := l.getD i []
def plat (l : List Pc) (i : Nat) : Pc := l.getD i p0
def ptat (l : List Pt) (i : Nat) : Pt := l.getD i t0
theorem fcs_get {l : List (List V2)} {i : Nat} (h : i < l.length) : (fcs l)[i]? = some [pav (fat l i)] := by simp [fcs, fat, h]
theorem plcs_get {l : List Pc} {i : Nat} (h : i < l.length) : (plcs l)[i]? = some (plat l i).cells := by simp [plcs, plat, h]
theorem ptcs_get {l : List Pt} {i : Nat} (h : i < l.length) : (ptcs l)[i]? = some (ptat l i).cells := by simp [ptcs, ptat, h]
theorem ics_get {l : List Int} {i : Nat} (h : i < l.length) : (ics l)[i]? = some [.int .i64 (iat l i)] := by simp [ics, iat, h]
theorem scs_get {l : List ByteArray} {i : Nat} (h : i < l.length) : (scs l)[i]? = some [.str (sat l i)] := by simp [scs, sat, h]
/-- A byte of a text. -/
def bat (s : ByteArray) (i : Nat) : Int := (s.data.getD i 0).toNat
theorem bat_get {s : ByteArray} {i : Nat} (h : i < s.size) : ∃ b : UInt8, s[i]? = some b ∧ (b.toNat : Int) = bat s i := by
  have hd : i < s.data.size := h
  refine ⟨s.data[i], ?_, ?_⟩
  · exact getElem?_pos s i h
  · simp only [bat, Array.getD]; rw [dif_pos hd]; rfl
theorem next_all {P : Nat → Prop} {i : Nat} (h : ∀ j < i, P j) (hi : P i) : ∀ j < i + 1, P j := fun j hj => by
  rcases Nat.lt_succ_iff_lt_or_eq.1 hj with h' | rfl
  · exact h j h'
  · exact hi
def letterN (n : Int) : Bool := decide (97 ≤ n ∧ n ≤ 122 ∨ 65 ≤ n ∧ n ≤ 90)
def wordN (n : Int) : Bool := letterN n || decide (n = 95 ∨ 48 ≤ n ∧ n ≤ 57)
def nameP (s : ByteArray) : Prop := (1 ≤ s.size ∧ s.size ≤ 12) ∧ letterN (bat s 0) = true ∧ ∀ i < s.size, 1 ≤ i → wordN (bat s i) = true
instance (s : ByteArray) : Decidable (nameP s) := by unfold nameP; exact inferInstance
def nameOk (s : ByteArray) : Bool := decide (nameP s)
theorem ba_beq (a b : ByteArray) : (a == b) = decide (a = b) := by
  have e : (a == b) = (a.data == b.data) := rfl
  rw [e]
  obtain ⟨x⟩ := a
  obtain ⟨y⟩ := b
  by_cases h : x = y
  · subst h; simp
  · simp [h]
theorem letter9_pure (n : Int) : Pure Tryz.prog 125 [.int .u8 n] (.bool (letterN n)) := by
  refine pure_val fun σ ns _ => ?_; refine acalls_of_wpc Tryz.mixed Tryz.dr125 Tryz.func125 rfl (Tryz.fit125 _ rfl) Tryz.en125 (fun hσ => ?_); simp [Tryz.ntmps125]
  (repeat' (first | (refine guardK_cases (fun h => ?_) (fun h => ?_) <;> simp [h]) | (refine condK_cases (fun h => ?_) (fun h => ?_) <;> simp [h])))
  all_goals (refine endA_eq (congrArg AV.bool ?_) (by simp))
  all_goals (rw [Bool.eq_iff_iff]; simp_all [letterN]; try omega)
theorem Name9_pure (s : ByteArray) (hl : s.size ≤ 1000000000) : Pure Tryz.prog 104 [.str s] (.bool (nameOk s)) := by
  refine pure_val fun σ ns _ => ?_; refine acalls_of_wpc Tryz.mixed Tryz.dr104 Tryz.func104 rfl (Tryz.fit104 _ rfl) Tryz.en104 (fun hσ => ?_); simp [Tryz.ntmps104]
  refine guardK_cases (fun h1 => ?_) (fun h1 => ?_) <;> simp [h1] <;> (try simp at h1)
  · exact endA_eq (congrArg AV.bool (decide_eq_false fun h => by have := h.1; omega).symm) (by simp)
  refine guardK_cases (fun h2 => ?_) (fun h2 => ?_) <;> simp [h2] <;> (try simp at h2)
  · exact endA_eq (congrArg AV.bool (decide_eq_false fun h => by have := h.1; omega).symm) (by simp)
  obtain ⟨b, hb, hbe⟩ := bat_get (s := s) (i := 0) (by omega)
  simp [hb, hbe]
  first | refine Pure.use_le (letter9_pure (bat s 0)) ?_ | refine callT_le (letter9_pure (bat s 0)) ?_
  simp
  refine condK_cases (fun h3 => ?_) (fun h3 => ?_) <;> simp [h3] <;> (try simp at h3)
  · exact endA_eq (congrArg AV.bool (decide_eq_false fun h => by have := h.2.1; simp [h3] at this).symm) (by simp)
  refine wpc_loop0 (fun i : Nat => [(2, .any), (18, .any), (19, .any), (20, .any), (21, .any), (22, .any), (23, .any), (24, .any), (25, .any), (26, .any), (27, .any), (28, .any), (29, .any), (30, .any), (31, .any), (32, .any), (33, .any), (34, .any), (35, .any), (36, .any), (37, .any), (38, .any), (39, .any), (40, .any), (41, .any), (42, .any), (43, .any), (44, .any), (45, .any), (46, .any), (3, .int .i64 i)]) (fun i => s.size - i) (fun i => 1 ≤ i ∧ i ≤ s.size ∧ ∀ j < i, 1 ≤ j → wordN (bat s j) = true) 1 ⟨by omega, by omega, fun j h1 h2 => by omega⟩ ?_ ?_
  · simp
    (repeat' first | exact AVsle.nil | refine AVsle.cons (AVle.any _) ?_ | refine AVsle.cons (AVle.refl _) ?_ | refine AVsle.cons AVLe.le ?_)
  rintro i r ⟨hi1, hi, hm⟩
  simp
  refine condK_cases (fun h4 => ?_) (fun h4 => ?_) <;> simp [h4] <;> (try simp at h4)
  · obtain ⟨b, hb, hbe⟩ := bat_get h4
    have w : IntKind.wrap .i64 ((i : Int) + 1) = ((i + 1 : Nat) : Int) := wrap64 (by omega) (by omega)
    simp [hb, hbe]
    first | refine Pure.use_le (letter9_pure (bat s i)) ?_ | refine callT_le (letter9_pure (bat s i)) ?_
    simp
    have good : wordN (bat s i) = true → ∀ j < i + 1, 1 ≤ j → wordN (bat s j) = true := fun hw => next_all hm fun _ => hw
    have bad : wordN (bat s i) = false → false = nameOk s := fun hw => (decide_eq_false fun h => by have := h.2.2 i h4 hi1; simp [hw] at this).symm
    (repeat' (first | (refine guardK_cases (fun h => ?_) (fun h => ?_) <;> simp [h, w, hb, hbe]) | (refine condK_cases (fun h => ?_) (fun h => ?_) <;> simp [h, w, hb, hbe])))
    all_goals first
      | refine endA_eq (congrArg AV.bool (bad ?_)) (by simp); simp_all [wordN]; done
      | refine endA_eq (congrArg AV.bool (bad ?_)) (by simp); simp_all [wordN]; omega
      | skip
    all_goals (refine loopG_normal (i + 1) ⟨by omega, by omega, good ?_⟩ (by omega) ?_ ?_ rfl rfl)
    all_goals first
      | exact .of_eq (by simp)
      | (simp_all [wordN]; done)
      | (simp_all [wordN]; omega)
      | (simp; (repeat' first | exact AVsle.nil | refine AVsle.cons (AVle.any _) ?_ | refine AVsle.cons (AVle.refl _) ?_ | refine AVsle.cons AVLe.le ?_))
  · obtain rfl : i = s.size := by omega
    exact endA_eq (congrArg AV.bool (decide_eq_true ⟨by omega, h3, hm⟩).symm) (by simp)
def unlikeP (l : List Int) (n : Int) : Prop := ∀ i < l.length, (0 ≤ iat l i ∧ iat l i < n) ∧ ∀ k < i, iat l k ≠ iat l i
instance (l : List Int) (n : Int) : Decidable (unlikeP l n) := by unfold unlikeP; exact inferInstance
def unlikeB (l : List Int) (n : Int) : Bool := decide (unlikeP l n)
theorem unlike9_pure (l : List Int) (n : Int) (hl : l.length ≤ 1000000000) : Pure Tryz.prog 47 [.sl 1 (ics l) .unk, .int .i64 n] (.bool (unlikeB l n)) := by
  refine pure_val fun σ ns _ => ?_; refine acalls_of_wpc Tryz.mixed Tryz.dr47 Tryz.func47 rfl (Tryz.fit47 _ rfl) Tryz.en47 (fun hσ => ?_); simp [Tryz.ntmps47]
  refine wpc_loop0 (fun i : Nat => [(4, .any), (6, .any), (7, .any), (8, .any), (9, .any), (10, .any), (11, .any), (12, .any), (13, .any), (14, .any), (15, .any), (16, .any), (17, .any), (18, .any), (19, .any), (20, .any), (21, .any), (22, .any), (23, .any), (24, .any), (25, .any), (26, .any), (27, .any), (28, .any), (29, .any), (30, .any), (31, .any), (32, .any), (33, .any), (34, .any), (35, .any), (36, .any), (37, .any), (38, .any), (39, .any), (5, .int .i64 i)]) (fun i => l.length - i) (fun i => i ≤ l.length ∧ ∀ j < i, (0 ≤ iat l j ∧ iat l j < n) ∧ ∀ k < j, iat l k ≠ iat l j) 0 (by simp) ?_ ?_
  · simp
    (repeat' first | exact AVsle.nil | refine AVsle.cons (AVle.any _) ?_ | refine AVsle.cons (AVle.refl _) ?_ | refine AVsle.cons AVLe.le ?_)
  rintro i r ⟨hi, hm⟩
  simp
  refine condK_cases (fun h => ?_) (fun h => ?_) <;> simp [h] <;> (try simp at h)
  · have hg := ics_get h
    have w : IntKind.wrap .i64 ((i : Int) + 1) = ((i + 1 : Nat) : Int) := wrap64 (by omega) (by omega)
    simp [hg]
    refine guardK_cases (fun h1 => ?_) (fun h1 => ?_) <;> simp [h1, hg] <;> (try simp at h1)
    · exact endA_eq (congrArg AV.bool (decide_eq_false fun h => by have := (h i ‹_›).1; omega).symm) (by simp)
    refine condK_cases (fun h2 => ?_) (fun h2 => ?_) <;> simp [h2] <;> (try simp at h2)
    · exact endA_eq (congrArg AV.bool (decide_eq_false fun h => by have := (h i ‹_›).1; omega).symm) (by simp)
    refine wpc_loop0 (fun k : Nat => [(4, .any), (26, .any), (27, .any), (28, .any), (29, .any), (30, .any), (31, .any), (32, .any), (33, .any), (34, .any), (35, .any), (36, .any), (37, .any), (38, .any), (39, .any), (6, .int .i64 k)]) (fun k => i - k) (fun k => k ≤ i ∧ ∀ j < k, iat l j ≠ iat l i) 0 (by simp) ?_ ?_
    · simp
      (repeat' first | exact AVsle.nil | refine AVsle.cons (AVle.any _) ?_ | refine AVsle.cons (AVle.refl _) ?_ | refine AVsle.cons AVLe.le ?_)
    rintro k r2 ⟨hk, hmk⟩
    simp
    refine condK_cases (fun h3 => ?_) (fun h3 => ?_) <;> simp [h3] <;> (try simp at h3)
    · have hgk := ics_get (l := l) (i := k) (by omega)
      have wk : IntKind.wrap .i64 ((k : Int) + 1) = ((k + 1 : Nat) : Int) := wrap64 (by omega) (by omega)
      simp [hg, hgk]
      refine condK_cases (fun h4 => ?_) (fun h4 => ?_) <;> simp [h4] <;> (try simp at h4)
      · exact endA_eq (congrArg AV.bool (decide_eq_false fun h => by exact absurd h4 ((h i ‹_›).2 k h3)).symm) (by simp)
      simp [wk]
      (refine loopG_normal (k + 1) (⟨by omega, next_all hmk (by simpa using h4)⟩) (by omega) ?_ ?_ rfl rfl; rotate_left; exact .of_eq (by simp); simp; (repeat' first | exact AVsle.nil | refine AVsle.cons (AVle.any _) ?_ | refine AVsle.cons (AVle.refl _) ?_ | refine AVsle.cons AVLe.le ?_))
    · obtain rfl : k = i := by omega
      simp [w]
      (refine loopG_normal (k + 1) (⟨by omega, next_all hm ⟨by omega, hmk⟩⟩) (by omega) ?_ ?_ rfl rfl; rotate_left; exact .of_eq (by simp); simp; (repeat' first | exact AVsle.nil | refine AVsle.cons (AVle.any _) ?_ | refine AVsle.cons (AVle.refl _) ?_ | refine AVsle.cons AVLe.le ?_))
  · obtain rfl : i = l.length := by omega
    exact endA_eq (congrArg AV.bool (decide_eq_true hm).symm) (by simp)
def namesP (l : List ByteArray) : Prop := ∀ i < l.length, nameOk (sat l i) = true ∧ ∀ k < i, sat l k ≠ sat l i
instance (l : List ByteArray) : Decidable (namesP l) := by unfold namesP; exact inferInstance
def namesB (l : List ByteArray) : Bool := decide (namesP l)
theorem names9_pure (l : List ByteArray) (hl : l.length ≤ 1000000000) (hs : ∀ i, (sat l i).size ≤ 1000000000) : Pure Tryz.prog 69 [.sl 1 (scs l) .unk] (.bool (namesB l)) := by
  refine pure_val fun σ ns _ => ?_; refine acalls_of_wpc Tryz.mixed Tryz.dr69 Tryz.func69 rfl (Tryz.fit69 _ rfl) Tryz.en69 (fun hσ => ?_); simp [Tryz.ntmps69]
  refine wpc_loop0 (fun i : Nat => [(2, .any), (4, .any), (5, .any), (6, .any), (7, .any), (8, .any), (9, .any), (10, .any), (11, .any), (12, .any), (13, .any), (14, .any), (15, .any), (16, .any), (17, .any), (18, .any), (19, .any), (20, .any), (21, .any), (22, .any), (23, .any), (24, .any), (25, .any), (26, .any), (27, .any), (28, .any), (29, .any), (30, .any), (3, .int .i64 i)]) (fun i => l.length - i) (fun i => i ≤ l.length ∧ ∀ j < i, nameOk (sat l j) = true ∧ ∀ k < j, sat l k ≠ sat l j) 0 (by simp) ?_ ?_
  · simp
    (repeat' first | exact AVsle.nil | refine AVsle.cons (AVle.any _) ?_ | refine AVsle.cons (AVle.refl _) ?_ | refine AVsle.cons AVLe.le ?_)
  rintro i r ⟨hi, hm⟩
  simp
  refine condK_cases (fun h => ?_) (fun h => ?_) <;> simp [h] <;> (try simp at h)
  · have hg := scs_get h
    have w : IntKind.wrap .i64 ((i : Int) + 1) = ((i + 1 : Nat) : Int) := wrap64 (by omega) (by omega)
    simp [hg]
    first | refine Pure.use_le (Name9_pure (sat l i) (hs i)) ?_ | refine callT_le (Name9_pure (sat l i) (hs i)) ?_
    simp
    refine condK_cases (fun h1 => ?_) (fun h1 => ?_) <;> simp [h1] <;> (try simp at h1)
    · exact endA_eq (congrArg AV.bool (decide_eq_false fun h => by have := (h i ‹_›).1; simp [h1] at this).symm) (by simp)
    refine wpc_loop0 (fun k : Nat => [(2, .any), (17, .any), (18, .any), (19, .any), (20, .any), (21, .any), (22, .any), (23, .any), (24, .any), (25, .any), (26, .any), (27, .any), (28, .any), (29, .any), (30, .any), (4, .int .i64 k)]) (fun k => i - k) (fun k => k ≤ i ∧ ∀ j < k, sat l j ≠ sat l i) 0 (by simp) ?_ ?_
    · simp
      (repeat' first | exact AVsle.nil | refine AVsle.cons (AVle.any _) ?_ | refine AVsle.cons (AVle.refl _) ?_ | refine AVsle.cons AVLe.le ?_)
    rintro k r2 ⟨hk, hmk⟩
    simp
    refine condK_cases (fun h3 => ?_) (fun h3 => ?_) <;> simp [h3] <;> (try simp at h3)
    · have hgk := scs_get (l := l) (i := k) (by omega)
      have wk : IntKind.wrap .i64 ((k : Int) + 1) = ((k + 1 : Nat) : Int) := wrap64 (by omega) (by omega)
      simp [hg, hgk]
      refine condK_cases (fun h4 => ?_) (fun h4 => ?_) <;> simp [h4] <;> (try simp [ba_beq] at h4)
      · exact endA_eq (congrArg AV.bool (decide_eq_false fun h => by exact absurd h4 ((h i ‹_›).2 k h3)).symm) (by simp)
      simp [wk]
      (refine loopG_normal (k + 1) (⟨by omega, next_all hmk (by simpa using h4)⟩) (by omega) ?_ ?_ rfl rfl; rotate_left; exact .of_eq (by simp); simp; (repeat' first | exact AVsle.nil | refine AVsle.cons (AVle.any _) ?_ | refine AVsle.cons (AVle.refl _) ?_ | refine AVsle.cons AVLe.le ?_))
    · obtain rfl : k = i := by omega
      simp [w]
      (refine loopG_normal (k + 1) (⟨by omega, next_all hm ⟨h1, hmk⟩⟩) (by omega) ?_ ?_ rfl rfl; rotate_left; exact .of_eq (by simp); simp; (repeat' first | exact AVsle.nil | refine AVsle.cons (AVle.any _) ?_ | refine AVsle.cons (AVle.refl _) ?_ | refine AVsle.cons AVLe.le ?_))
  · obtain rfl : i = l.length := by omega
    exact endA_eq (congrArg AV.bool (decide_eq_true hm).symm) (by simp)
def polysP (l : List (List V2)) : Prop := l.length ≤ 16 ∧ ∀ i < l.length, rightPoly (fat l i) = true
instance (l : List (List V2)) : Decidable (polysP l) := by unfold polysP; exact inferInstance
def polysB (l : List (List V2)) : Bool := decide (polysP l)
theorem polys9_pure (l : List (List V2)) (hl : l.length ≤ 1000000000) (hs : ∀ i, (fat l i).length ≤ 1000000) : Pure Tryz.prog 43 [.sl 1 (fcs l) .unk] (.bool (polysB l)) := by
  refine pure_val fun σ ns _ => ?_; refine acalls_of_wpc Tryz.mixed Tryz.dr43 Tryz.func43 rfl (Tryz.fit43 _ rfl) Tryz.en43 (fun hσ => ?_); simp [Tryz.ntmps43]
  refine condK_cases (fun h => ?_) (fun h => ?_) <;> simp [h] <;> (try simp at h)
  · exact endA_eq (congrArg AV.bool (decide_eq_false fun h => by have := h.1; omega).symm) (by simp)
  refine wpc_loop0 (fun i : Nat => [(2, .any), (7, .any), (8, .any), (9, .any), (10, .any), (11, .any), (12, .any), (13, .any), (14, .any), (15, .any), (16, .any), (17, .any), (18, .any), (3, .int .i64 i)]) (fun i => l.length - i) (fun i => i ≤ l.length ∧ ∀ j < i, rightPoly (fat l j) = true) 0 (by simp) ?_ ?_
  · simp
    (repeat' first | exact AVsle.nil | refine AVsle.cons (AVle.any _) ?_ | refine AVsle.cons (AVle.refl _) ?_ | refine AVsle.cons AVLe.le ?_)
  rintro i r ⟨hi, hm⟩
  simp
  refine condK_cases (fun h => ?_) (fun h => ?_) <;> simp [h] <;> (try simp at h)
  · have hg := fcs_get h
    have w : IntKind.wrap .i64 ((i : Int) + 1) = ((i + 1 : Nat) : Int) := wrap64 (by omega) (by omega)
    simp [hg]
    first | refine Pure.use_le (Right3_pure (fat l i) (hs i)) ?_ | refine callT_le (Right3_pure (fat l i) (hs i)) ?_
    simp
    refine condK_cases (fun h1 => ?_) (fun h1 => ?_) <;> simp [h1] <;> (try simp at h1)
    · exact endA_eq (congrArg AV.bool (decide_eq_false fun h => by have := h.2 i ‹_›; simp [h1] at this).symm) (by simp)
    simp [w]
    (refine loopG_normal (i + 1) (⟨by omega, next_all hm h1⟩) (by omega) ?_ ?_ rfl rfl; rotate_left; exact .of_eq (by simp); simp; (repeat' first | exact AVsle.nil | refine AVsle.cons (AVle.any _) ?_ | refine AVsle.cons (AVle.refl _) ?_ | refine AVsle.cons AVLe.le ?_))
  · obtain rfl : i = l.length := by omega
    exact endA_eq (congrArg AV.bool (decide_eq_true ⟨by omega, hm⟩).symm) (by simp)
theorem bounded9_pure (l : J3) : Pure Tryz.prog 42 [.agg [.int .i64 l.a, .int .i64 l.b, .int .i64 l.c]] (.bool (decide ((1 ≤ l.a ∧ l.a ≤ 8) ∧ (1 ≤ l.b ∧ l.b ≤ 4) ∧ 1 ≤ l.c ∧ l.c ≤ 2))) := by
  refine pure_val fun σ ns _ => ?_; refine acalls_of_wpc Tryz.mixed Tryz.dr42 Tryz.func42 rfl (Tryz.fit42 _ rfl) Tryz.en42 (fun hσ => ?_); simp [Tryz.ntmps42]
  (repeat' (first | (refine guardK_cases (fun h => ?_) (fun h => ?_) <;> simp [h]) | (refine condK_cases (fun h => ?_) (fun h => ?_) <;> simp [h])))
  all_goals (refine endA_eq (congrArg AV.bool ?_) (by simp))
  all_goals (refine Bool.eq_iff_iff.2 ?_; simp_all; try omega)
theorem Cross2_pure (a b p : V2) (ha : mayP a = true) (hb : mayP b = true) (hp : mayP p = true) : Pure Tryz.prog 126 [a.av, b.av, p.av] (.int .i64 (cross a b p)) := by
  have h := cross_bd ha hb hp
  rw [mayP_iff] at ha hb hp
  refine pure_val fun σ ns _ => ?_; refine acalls_of_wpc Tryz.mixed Tryz.dr126 Tryz.func126 rfl (Tryz.fit126 _ rfl) Tryz.en126 (fun hσ => ?_); simp [Tryz.ntmps126]
  simp (disch := omega) [wrap64]
  exact endA_eq (by simp [cross]) (by simp)
theorem Side2_pure (a b p : V2) (ha : mayP a = true) (hb : mayP b = true) (hp : mayP p = true) : Pure Tryz.prog 105 [a.av, b.av, p.av] (.int .i64 (sgn (cross a b p))) := by
  refine pure_val fun σ ns _ => ?_; refine acalls_of_wpc Tryz.mixed Tryz.dr105 Tryz.func105 rfl (Tryz.fit105 _ rfl) Tryz.en105 (fun hσ => ?_); simp [Tryz.ntmps105]
  first | refine Pure.use_le (Cross2_pure a b p ha hb hp) ?_ | refine callT_le (Cross2_pure a b p ha hb hp) ?_
  simp
  (repeat' (first | (refine guardK_cases (fun h => ?_) (fun h => ?_) <;> simp [h]) | (refine condK_cases (fun h => ?_) (fun h => ?_) <;> simp [h])))
  all_goals (refine endA_eq (congrArg (AV.int _) ?_) (by simp))
  all_goals (simp_all [sgn]; try omega)
/-- A part's shape. -/
def shapeP (p : List V2) : Prop := p.length ≤ 4 ∧ rightPoly p = true ∧ ∀ i < p.length, ((-10 ≤ (pat p i).1 ∧ (pat p i).1 ≤ 10) ∧ -10 ≤ (pat p i).2 ∧ (pat p i).2 ≤ 10) ∧ ∀ k < p.length, 0 ≤ sgn (cross (pat p i) (pat p (i + 1)) (pat p k))
instance (p : List V2) : Decidable (shapeP p) := by unfold shapeP; exact inferInstance
def shapeB (p : List V2) : Bool := decide (shapeP p)
end Go.Proofs
