/- The walk of the brute force. -/
import Derived.Test.YtajdhkchgidjmaaW9
set_option linter.unusedVariables false
set_option linter.unusedSimpArgs false
set_option maxRecDepth 100000
namespace Go.Proofs
open Go Go.Abs
theorem endA_weak {v v' : AV} {τ σ : Store} {ns : Nm} (hl : AVle v v') (hw : StWeak ns σ τ σ) : endA (some v) τ [] σ ns (fun e σ' => e = .ret v' ∧ σ' = σ) := ⟨rfl, v, rfl, v', σ, hl, hw, rfl, rfl⟩
attribute [local irreducible] wpc aSeq awAny endA guardK condK CallK callT aPlan onlyL takeL aeffK takeE loopG bodyA thenA inBlockA planK roundG assignG bodyI endI YieldK unrollG
/-- A slice that grows: none: nothing yet. -/
def gsl (c : Option Nm) (es : List (List AV)) : AV := match c with
  | none => .sl 0 [] .nil
  | some m => .sl 3 es (.tok m)
def gtok (c : Option Nm) : List (Nm × AObj) := match c with
  | none => []
  | some m => [(m, .tok)]
def gok (ns : Nm) (c : Option Nm) (n : List J3) : Prop := match c with
  | none => n = []
  | some m => m.under ns = true ∧ m ≠ (ns.sub 0).sub 0 ∧ m ≠ (ns.sub 0).sub 1 ∧ m ≠ (ns.sub 0).sub 2
def jcs (l : List J3) : List (List AV) := l.map J3.cells
@[simp] theorem jcs_nil : jcs [] = [] := rfl
@[simp] theorem jcs_len (l : List J3) : (jcs l).length = l.length := by simp [jcs]
theorem jcs_snoc (l : List J3) (q : J3) : jcs l ++ [[.int .i64 q.a, .int .i64 q.b, .int .i64 q.c]] = jcs (l ++ [q]) := by simp [jcs]
theorem gsl_unk {c : Option Nm} {ns : Nm} {l : List J3} (h : gok ns c l) : AVle (gsl c (jcs l)) (.sl 3 (jcs l) .unk) := by
  cases c with
  | none => simp only [gok] at h; subst h; exact .unk0
  | some m => exact .unk
theorem gsl_none {es : List (List AV)} : gsl none es = .sl 0 [] .nil := rfl
theorem gsl_some {m : Nm} {es : List (List AV)} : gsl (some m) es = .sl 3 es (.tok m) := rfl
@[simp] theorem upto_zero {lo : Int} : upto lo 0 = [] := rfl
theorem upto_succ (lo : Int) (n : Nat) : upto lo (n + 1) = upto lo n ++ [lo + n] := by
  unfold upto; rw [List.range_succ]; simp
theorem upto_length (lo : Int) (n : Nat) : (upto lo n).length = n := by simp [upto]
def all3 (a : Ar) (at' : V2) (d : Dr) (i j : Int) (n : Nat) : List J3 := ((upto a.low.c n).map fun k => J3.mk i j k).filter fun q => reaches a q at' d
def cnt (lo hi : Int) : Nat := (hi - lo + 1).toNat
def all2 (a : Ar) (at' : V2) (d : Dr) (i : Int) (n : Nat) : List J3 := (upto a.low.b n).flatMap fun j => all3 a at' d i j (cnt a.low.c a.high.c)
def all1 (a : Ar) (at' : V2) (d : Dr) (n : Nat) : List J3 := (upto a.low.a n).flatMap fun i => all2 a at' d i (cnt a.low.b a.high.b)
def all (a : Ar) (at' : V2) (d : Dr) : List J3 := all1 a at' d (cnt a.low.a a.high.a)
theorem all3_succ (a : Ar) (at' : V2) (d : Dr) (i j : Int) (n : Nat) : all3 a at' d i j (n + 1) = all3 a at' d i j n ++ (if reaches a ⟨i, j, a.low.c + n⟩ at' d = true then [⟨i, j, a.low.c + n⟩] else []) := by
  unfold all3; rw [upto_succ]; simp [List.filter_cons]
theorem all2_succ (a : Ar) (at' : V2) (d : Dr) (i : Int) (n : Nat) : all2 a at' d i (n + 1) = all2 a at' d i n ++ all3 a at' d i (a.low.b + n) (cnt a.low.c a.high.c) := by
  unfold all2; rw [upto_succ]; simp
theorem all1_succ (a : Ar) (at' : V2) (d : Dr) (n : Nat) : all1 a at' d (n + 1) = all1 a at' d n ++ all2 a at' d (a.low.a + n) (cnt a.low.b a.high.b) := by
  unfold all1; rw [upto_succ]; simp
theorem all3_len (a : Ar) (at' : V2) (d : Dr) (i j : Int) (n : Nat) : (all3 a at' d i j n).length ≤ n := by
  unfold all3; exact Nat.le_trans (List.length_filter_le _ _) (by simp [upto_length])
theorem flat_len {α β : Type} (f : α → List β) (k : Nat) (l : List α) (h : ∀ x, (f x).length ≤ k) : (l.flatMap f).length ≤ l.length * k := by
  induction l with
  | nil => simp
  | cons x l ih => simp only [List.flatMap_cons, List.length_append, List.length_cons]; have := h x; rw [Nat.succ_mul]; omega
theorem all2_len (a : Ar) (at' : V2) (d : Dr) (i : Int) (n : Nat) : (all2 a at' d i n).length ≤ n * cnt a.low.c a.high.c := by
  have := flat_len (fun j => all3 a at' d i j (cnt a.low.c a.high.c)) (cnt a.low.c a.high.c) (upto a.low.b n) (fun j => all3_len ..)
  rwa [upto_length] at this
theorem all1_len (a : Ar) (at' : V2) (d : Dr) (n : Nat) : (all1 a at' d n).length ≤ n * (cnt a.low.b a.high.b * cnt a.low.c a.high.c) := by
  have := flat_len (fun i => all2 a at' d i (cnt a.low.b a.high.b)) (cnt a.low.b a.high.b * cnt a.low.c a.high.c) (upto a.low.a n) (fun j => all2_len ..)
  rwa [upto_length] at this
theorem mul36 {x y X Y : Nat} (hx : x ≤ X) (hy : y ≤ Y) : x * y ≤ X * Y := Nat.mul_le_mul hx hy
abbrev boxes (ns : Nm) (a : Ar) (at' : V2) (d : Dr) : List (Nm × AObj) := [((ns.sub 0).sub 2, .var [.int .i64 d.x, .int .i64 d.y, .int .i64 d.n]), ((ns.sub 0).sub 1, .var [.int .i64 at'.1, .int .i64 at'.2]), ((ns.sub 0).sub 0, .var a.cells)]
/-- The store of a walk: the boxes, and the slice's token. -/
def gst (σ : Store) (ns : Nm) (a : Ar) (at' : V2) (d : Dr) (c : Option Nm) : Store := upL σ (gtok c ++ boxes ns a at' d)
section
variable {σ : Store} {ns : Nm} {a : Ar} {at' : V2} {d : Dr} {c : Option Nm} {n : List J3}
theorem gst_0 (h : gok ns c n) : gst σ ns a at' d c ((ns.sub 0).sub 0) = some (.var a.cells) := by
  cases c with
  | none => simp [gst, gtok]
  | some m => obtain ⟨h1, h2, h3, h4⟩ := h; simp [gst, gtok, Ne.symm h2]
theorem gst_1 (h : gok ns c n) : gst σ ns a at' d c ((ns.sub 0).sub 1) = some (.var [.int .i64 at'.1, .int .i64 at'.2]) := by
  cases c with
  | none => simp [gst, gtok]
  | some m => obtain ⟨h1, h2, h3, h4⟩ := h; simp [gst, gtok, Ne.symm h3]
theorem gst_2 (h : gok ns c n) : gst σ ns a at' d c ((ns.sub 0).sub 2) = some (.var [.int .i64 d.x, .int .i64 d.y, .int .i64 d.n]) := by
  cases c with
  | none => simp [gst, gtok]
  | some m => obtain ⟨h1, h2, h3, h4⟩ := h; simp [gst, gtok, Ne.symm h4]
theorem gst_tok {m : Nm} : gst σ ns a at' d (some m) m = some .tok := by simp [gst, gtok]
theorem gst_out (h : gok ns c n) {x : Nm} (hx : x.under ns = false) : gst σ ns a at' d c x = σ x := by
  have e : ∀ m : Nm, m.under ns = true → ¬ x = m := fun m hm e => by subst e; rw [hm] at hx; cases hx
  cases c with
  | none => simp [gst, gtok, Store.up_get, e _ (show ((ns.sub 0).sub 0).under ns = true by simp [Nm.under]), e _ (show ((ns.sub 0).sub 1).under ns = true by simp [Nm.under]), e _ (show ((ns.sub 0).sub 2).under ns = true by simp [Nm.under])]
  | some m => obtain ⟨h1, h2, h3, h4⟩ := h; simp [gst, gtok, Store.up_get, e _ h1, e _ (show ((ns.sub 0).sub 0).under ns = true by simp [Nm.under]), e _ (show ((ns.sub 0).sub 1).under ns = true by simp [Nm.under]), e _ (show ((ns.sub 0).sub 2).under ns = true by simp [Nm.under])]
end
theorem len_ok (a : Ar) (at' : V2) (d : Dr) (hNb : cnt a.low.b a.high.b ≤ 36) (hNc : cnt a.low.c a.high.c ≤ 36) (i j : Int) {n1 n2 n3 : Nat} (h1 : n1 ≤ cnt a.low.a a.high.a) (h2 : n2 ≤ cnt a.low.b a.high.b) (h3 : n3 ≤ cnt a.low.c a.high.c) (hNa : cnt a.low.a a.high.a ≤ 36) :
    (all1 a at' d n1).length + ((all2 a at' d i n2).length + (all3 a at' d i j n3).length) ≤ 50000 := by
  have a1 := all1_len a at' d n1
  have a2 := all2_len a at' d i n2
  have a3 := all3_len a at' d i j n3
  have b1 := mul36 (mul36 (Nat.le_trans h1 hNa) (Nat.le_refl 1)) (mul36 hNb hNc)
  have b2 := mul36 (Nat.le_trans h2 hNb) hNc
  rw [Nat.mul_one] at b1
  omega
theorem gst_weak {σ : Store} {ns : Nm} {a : Ar} {at' : V2} {d : Dr} {c : Option Nm} {n : List J3} (h : gok ns c n) : StWeak ns σ (gst σ ns a at' d c) σ := by
  refine StWeak.same ?_
  cases c with
  | none => simp [gst, gtok]
  | some m => simp [gst, gtok, h.1]
theorem gst_step {σ u : Store} {ns : Nm} {a : Ar} {at' : V2} {d : Dr} {n' : Nm} (hσ : ∀ n, n.under ns = true → σ n = none) (hn : n'.under ns = true) (hu : ∀ x, x.under ns = false → u x = σ x) (h0 : u ((ns.sub 0).sub 0) = some (.var a.cells)) (h1 : u ((ns.sub 0).sub 1) = some (.var [.int .i64 at'.1, .int .i64 at'.2])) (h2 : u ((ns.sub 0).sub 2) = some (.var [.int .i64 d.x, .int .i64 d.y, .int .i64 d.n])) (ht : u n' = some .tok) :
    StWk u (gst σ ns a at' d (some n')) := by
  refine StWk.own hσ _ ?_ hu
  intro p hp
  simp [gtok] at hp
  rcases hp with rfl | rfl | rfl | rfl
  · exact ⟨_, ht, .inl rfl⟩
  · exact ⟨_, h2, .inl rfl⟩
  · exact ⟨_, h1, .inl rfl⟩
  · exact ⟨_, h0, .inl rfl⟩
set_option maxHeartbeats 16000000 in
theorem all_pure (a : Ar) (at' : V2) (d : Dr) (h : RightP a) : Pure Try.prog 15 [a.av, at'.av, d.av] (.sl 3 (jcs (all a at' d)) .unk) := by
  have hlo := h.low
  have hhi := h.high
  have hrg := h.rg
  have hNa : cnt a.low.a a.high.a ≤ 36 := by unfold cnt; omega
  have hNb : cnt a.low.b a.high.b ≤ 36 := by unfold cnt; omega
  have hNc : cnt a.low.c a.high.c ≤ 36 := by unfold cnt; omega
  intro σ ns; refine acalls_of_wpc Try.mixed Try.dr15 Try.func15 rfl (Try.fit15 _ rfl) Try.en15 (fun hσ => ?_); simp [Try.ntmps15]
  refine wpc_loopN (α := Nat × Option Nm) (fun p => [(7, .any), (8, .any), (9, .any), (10, .any), (11, .any), (12, .any), (16, .any), (17, .any), (18, .any), (19, .any), (20, .any), (21, .any), (22, .any), (23, .any), (24, .any), (25, .any), (26, .any), (27, .any), (28, .any), (29, .any), (30, .any), (31, .any), (32, .any), (33, .any), (34, .any), (35, .any), (36, .any), (37, .any), (38, .any), (39, .any), (40, .any), (41, .any), (42, .any), (43, .any), (44, .any), (45, .any), (46, .any), (47, .any), (48, .any), (49, .any), (50, .any), (51, .any), (52, .any), (53, .any), (54, .any), (55, .any), (56, .any),  (7, gsl p.2 (jcs (all1 a at' d p.1))), (8, .int .i64 (a.low.a + p.1))]) (fun p => gst σ ns a at' d p.2) (fun p => cnt a.low.a a.high.a - p.1)
    (fun p => p.1 ≤ cnt a.low.a a.high.a ∧ gok ns p.2 (all1 a at' d p.1)) (0, none) ⟨by simp, rfl⟩ ?_ ?_ ?_
  · simp [gsl]
    (repeat' first | exact AVsle.nil | refine AVsle.cons (AVle.any _) ?_ | refine AVsle.cons (AVle.refl _) ?_ | refine AVsle.cons AVLe.le ?_)
  · simp [gst, gtok]
    exact .refl _
  rintro ⟨n1, c1⟩ k1 ⟨hn1, hc1⟩ hf1
  simp only at hn1 hc1 hf1
  have g0 := gst_0 (σ := σ) (a := a) (at' := at') (d := d) hc1
  simp [g0]
  refine condK_cases (fun hx1 => ?_) (fun hx1 => ?_) <;> simp at hx1
  · simp [g0]
    refine wpc_loopN (α := Nat × Option Nm) (fun p => [(7, .any), (9, .any), (10, .any), (11, .any), (12, .any), (26, .any), (27, .any), (28, .any), (29, .any), (30, .any), (31, .any), (32, .any), (33, .any), (34, .any), (35, .any), (36, .any), (37, .any), (38, .any), (39, .any), (40, .any), (41, .any), (42, .any), (43, .any), (44, .any), (45, .any), (46, .any), (47, .any), (48, .any), (49, .any), (50, .any), (51, .any), (52, .any), (53, .any), (54, .any), (55, .any), (56, .any),  (7, gsl p.2 (jcs (all1 a at' d n1 ++ all2 a at' d (a.low.a + n1) p.1))), (9, .int .i64 (a.low.b + p.1))]) (fun p => gst σ ns a at' d p.2) (fun p => cnt a.low.b a.high.b - p.1)
      (fun p => p.1 ≤ cnt a.low.b a.high.b ∧ gok ns p.2 (all1 a at' d n1 ++ all2 a at' d (a.low.a + n1) p.1)) (0, c1) ⟨by simp, by simpa [all2] using hc1⟩ ?_ (.refl _) ?_
    · simp [all2]
      (repeat' first | exact AVsle.nil | refine AVsle.cons (AVle.any _) ?_ | refine AVsle.cons (AVle.refl _) ?_ | refine AVsle.cons AVLe.le ?_)
    rintro ⟨n2, c2⟩ k2 ⟨hn2, hc2⟩ hf2
    simp only at hn2 hc2 hf2
    have g0 := gst_0 (σ := σ) (a := a) (at' := at') (d := d) hc2
    simp [g0]
    refine condK_cases (fun hx2 => ?_) (fun hx2 => ?_) <;> simp at hx2
    · simp [g0]
      refine wpc_loopN (α := Nat × Option Nm) (fun p => [(7, .any), (10, .any), (11, .any), (12, .any), (36, .any), (37, .any), (38, .any), (39, .any), (40, .any), (41, .any), (42, .any), (43, .any), (44, .any), (45, .any), (46, .any), (47, .any), (48, .any), (49, .any), (50, .any), (51, .any), (52, .any), (53, .any), (54, .any), (55, .any), (56, .any),  (7, gsl p.2 (jcs (all1 a at' d n1 ++ (all2 a at' d (a.low.a + n1) n2 ++ all3 a at' d (a.low.a + n1) (a.low.b + n2) p.1)))), (10, .int .i64 (a.low.c + p.1))]) (fun p => gst σ ns a at' d p.2) (fun p => cnt a.low.c a.high.c - p.1)
        (fun p => p.1 ≤ cnt a.low.c a.high.c ∧ gok ns p.2 (all1 a at' d n1 ++ (all2 a at' d (a.low.a + n1) n2 ++ all3 a at' d (a.low.a + n1) (a.low.b + n2) p.1))) (0, c2) ⟨by simp, by simpa [all3] using hc2⟩ ?_ (.refl _) ?_
      · simp [all3]
        (repeat' first | exact AVsle.nil | refine AVsle.cons (AVle.any _) ?_ | refine AVsle.cons (AVle.refl _) ?_ | refine AVsle.cons AVLe.le ?_)
      rintro ⟨n3, c3⟩ k3 ⟨hn3, hc3⟩ hf3
      simp only at hn3 hc3 hf3
      have g0 := gst_0 (σ := σ) (a := a) (at' := at') (d := d) hc3
      have g1 := gst_1 (σ := σ) (a := a) (at' := at') (d := d) hc3
      have g2 := gst_2 (σ := σ) (a := a) (at' := at') (d := d) hc3
      simp [g0]
      refine condK_cases (fun hx3 => ?_) (fun hx3 => ?_) <;> simp at hx3
      · simp [g0, g1, g2]
        refine Pure.use_le (reaches_pure a ⟨a.low.a + n1, a.low.b + n2, a.low.c + n3⟩ at' d h) ?_
        simp
        have w3 : IntKind.wrap .i64 (a.low.c + n3 + 1) = a.low.c + n3 + 1 := wrap64 (by omega) (by omega)
        have hsucc := all3_succ a at' d (a.low.a + n1) (a.low.b + n2) n3
        have hlen := len_ok a at' d hNb hNc (a.low.a + n1) (a.low.b + n2) hn1 hn2 hn3 hNa
        refine condK_cases (fun hr => ?_) (fun hr => ?_)
        · rw [if_pos hr] at hsucc
          have hb : ((all1 a at' d n1).length + ((all2 a at' d (a.low.a + n1) n2).length + (all3 a at' d (a.low.a + n1) (a.low.b + n2) n3).length) + 1) * 24 ≤ 140737488355328 := by omega
          cases c3 with
          | none =>
            simp only [gok] at hc3
            simp [gsl_none, g0, w3]
            refine loopG_normal (n3 + 1, some ((((((((ns.sub 3).sub k1).sub 2).sub k2).sub 2).sub k3).sub 4).sub 3)) ⟨by simp only; unfold cnt at *; omega, by simp [gok, Nm.under]⟩ (by simp only; unfold cnt at *; omega) ?_ (StWk.weak (gst_step hσ (by simp [Nm.under]) ?_ ?_ ?_ ?_ ?_)) rfl rfl
            · rw [hsucc, ← List.append_assoc, ← List.append_assoc, List.append_assoc (all1 a at' d n1), hc3]
              simp [jcs, gsl_some]
              (repeat' first | exact AVsle.nil | refine AVsle.cons (AVle.any _) ?_ | refine AVsle.cons (AVle.refl _) ?_ | refine AVsle.cons AVLe.le ?_)
            · intro x hx
              rw [up_other (ns := ns) (by simp [Nm.under]) hx, up_other (ns := ns) (by simp [Nm.under]) hx]
              exact gst_out (c := none) (n := []) rfl hx
            · simp [g0]
            · simp [g1]
            · simp [g2]
            · simp
          | some m =>
            have hm : ∀ x, x.under ((((((ns.sub 3).sub k1).sub 2).sub k2).sub 2).sub k3) = true → ¬ x = m := fun x hx e => by
              have := hf3 x hx; rw [e, gst_tok] at this; cases this
            have hq := hm ((((((((ns.sub 3).sub k1).sub 2).sub k2).sub 2).sub k3).sub 1).sub 4) (by simp [Nm.under])
            have hn := hm ((((((((ns.sub 3).sub k1).sub 2).sub k2).sub 2).sub k3).sub 4).sub 3) (by simp [Nm.under])
            have hq' : ¬ m = _ := fun e => hq e.symm
            have hn' : ¬ m = _ := fun e => hn e.symm
            have hc4 := hc3
            obtain ⟨m0, m1, m2, m3⟩ := hc4
            simp [gsl_some, g0, hb, hq, hq', hn, hn', gst_tok, w3, m1, Ne.symm m1]
            refine loopG_normal (n3 + 1, some ((((((((ns.sub 3).sub k1).sub 2).sub k2).sub 2).sub k3).sub 4).sub 3)) ⟨by simp only; unfold cnt at *; omega, by simp [gok, Nm.under]⟩ (by simp only; unfold cnt at *; omega) ?_ (StWk.weak (gst_step hσ (by simp [Nm.under]) ?_ ?_ ?_ ?_ ?_)) rfl rfl
            · rw [jcs_snoc (all1 a at' d n1 ++ (all2 a at' d (a.low.a + n1) n2 ++ all3 a at' d (a.low.a + n1) (a.low.b + n2) n3)) ⟨a.low.a + n1, a.low.b + n2, a.low.c + n3⟩]
              simp [gsl_some, hsucc]
              (repeat' first | exact AVsle.nil | refine AVsle.cons (AVle.any _) ?_ | refine AVsle.cons (AVle.refl _) ?_ | refine AVsle.cons AVLe.le ?_)
            · intro x hx
              rw [up_other (ns := ns) (by simp [Nm.under]) hx, del_other (ns := ns) m0 hx, up_other (ns := ns) (by simp [Nm.under]) hx]
              exact gst_out hc3 hx
            · simp [g0, Ne.symm m1]
            · simp [g1, Ne.symm m2]
            · simp [g2, Ne.symm m3]
            · simp
        · rw [if_neg (by simp [hr]), List.append_nil] at hsucc
          simp [w3]
          refine loopG_normal (n3 + 1, c3) ⟨by simp only; unfold cnt at *; omega, by simpa only [hsucc] using hc3⟩ (by simp only; unfold cnt at *; omega) ?_ ?_ rfl rfl
          · simp [hsucc]
            (repeat' first | exact AVsle.nil | refine AVsle.cons (AVle.any _) ?_ | refine AVsle.cons (AVle.refl _) ?_ | refine AVsle.cons AVLe.le ?_)
          · refine StWeak.same ?_
            simp
            done
      · have w2 : IntKind.wrap .i64 (a.low.b + n2 + 1) = a.low.b + n2 + 1 := wrap64 (by omega) (by omega)
        obtain rfl : n3 = cnt a.low.c a.high.c := by unfold cnt at *; omega
        have e2 := (all2_succ a at' d (a.low.a + n1) n2).symm
        rw [e2] at hc3 ⊢
        simp [w2]
        refine loopG_normal (n2 + 1, c3) ⟨by simp only; unfold cnt at *; omega, hc3⟩ (by simp only; unfold cnt at *; omega) ?_ (StWk.weak (.refl _)) rfl rfl
        simp
        (repeat' first | exact AVsle.nil | refine AVsle.cons (AVle.any _) ?_ | refine AVsle.cons (AVle.refl _) ?_ | refine AVsle.cons AVLe.le ?_)
    · have w1 : IntKind.wrap .i64 (a.low.a + n1 + 1) = a.low.a + n1 + 1 := wrap64 (by omega) (by omega)
      obtain rfl : n2 = cnt a.low.b a.high.b := by unfold cnt at *; omega
      rw [← all1_succ] at hc2 ⊢
      simp [w1]
      refine loopG_normal (n1 + 1, c2) ⟨by simp only; unfold cnt at *; omega, hc2⟩ (by simp only; unfold cnt at *; omega) ?_ (StWk.weak (.refl _)) rfl rfl
      simp
      (repeat' first | exact AVsle.nil | refine AVsle.cons (AVle.any _) ?_ | refine AVsle.cons (AVle.refl _) ?_ | refine AVsle.cons AVLe.le ?_)
  · simp
    obtain rfl : n1 = cnt a.low.a a.high.a := by unfold cnt at *; omega
    exact endA_weak (gsl_unk (ns := ns) hc1) (gst_weak hc1)
end Go.Proofs
