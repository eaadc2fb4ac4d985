/- W12, W13, W14, P1, joined. -/
import Derived.Test.YtnanajdckbfamaaGreatDoorMD
/- The walk of Solve. -/
set_option linter.unusedVariables false
set_option linter.unusedSimpArgs false
set_option maxRecDepth 100000
namespace Go.Proofs
open Go Go.Abs
attribute [local irreducible] wpc aSeq awAny endA guardK condK CallK callT aPlan onlyL takeL aeffK takeE loopG bodyA thenA inBlockA planK roundG assignG bodyI endI YieldK unrollG
/-- A store with a variable o that holds a growing slice, fixed variables L, and the slice's token. -/
def vst (σ : Store) (L : List (Nm × AObj)) (o : Nm) (c : Option Nm) (es : List (List AV)) : Store := upL σ (gtok c ++ (o, .var [gsl c es]) :: L)
def vok (ns : Nm) (L : List (Nm × AObj)) (o : Nm) (c : Option Nm) (l : List J3) : Prop := match c with
  | none => l = []
  | some m => m.under ns = true ∧ m ≠ o ∧ ∀ p ∈ L, m ≠ p.1
section
variable {σ : Store} {ns o : Nm} {L : List (Nm × AObj)} {c : Option Nm} {l : List J3} {es : List (List AV)}
theorem vst_o (h : vok ns L o c l) : vst σ L o c es o = some (.var [gsl c es]) := by
  cases c with
  | none => simp [vst, gtok]
  | some m => simp [vst, gtok, Ne.symm h.2.1]
theorem vst_tok {m : Nm} : vst σ L o (some m) es m = some .tok := by simp [vst, gtok]
/-- A fixed variable. -/
theorem vst_L (h : vok ns L o c l) {x : Nm} (hx : x ∈ L.map Prod.fst) (ho : x ≠ o) : vst σ L o c es x = upL σ L x := by
  cases c with
  | none => simp [vst, gtok, Store.up_get, ho]
  | some m =>
    obtain ⟨p, hp, rfl⟩ := List.mem_map.1 hx
    simp [vst, gtok, Store.up_get, ho, Ne.symm (h.2.2 p hp)]
theorem upL_out {x : Nm} : ∀ L : List (Nm × AObj), (∀ p ∈ L, p.1.under ns = true) → x.under ns = false → upL σ L x = σ x
  | [], _, _ => rfl
  | p :: L, h, hx => by
    rw [upL_cons, up_other (h p (by simp)) hx]
    exact upL_out L (fun q hq => h q (by simp [hq])) hx
theorem vst_out (h : vok ns L o c l) (hL : ∀ p ∈ L, p.1.under ns = true) (ho : o.under ns = true) {x : Nm} (hx : x.under ns = false) : vst σ L o c es x = σ x := by
  refine upL_out (ns := ns) _ ?_ hx
  cases c with
  | none => simp only [gtok, List.nil_append, List.mem_cons]; exact fun p hp => hp.elim (fun e => e ▸ ho) (hL p)
  | some m => simp only [gtok, List.cons_append, List.nil_append, List.mem_cons]; exact fun p hp => hp.elim (fun e => e ▸ h.1) fun hp => hp.elim (fun e => e ▸ ho) (hL p)
end
theorem vst_wk {σ u : Store} {ns o : Nm} {L : List (Nm × AObj)} {c : Option Nm} {es : List (List AV)} {v : AV} (hσ : ∀ n, n.under ns = true → σ n = none) (hL : ∀ p ∈ L, u p.1 = some p.2) (ho : u o = some (.var [v])) (hv : AVle v (gsl c es)) (ht : ∀ m, c = some m → u m = some .tok) (hout : ∀ x, x.under ns = false → u x = σ x) : StWk u (vst σ L o c es) := by
  refine StWk.own hσ _ ?_ hout
  intro p hp
  rcases List.mem_append.1 hp with hp | hp
  · cases c with
    | none => simp [gtok] at hp
    | some m => simp [gtok] at hp; subst hp; exact ⟨_, ht m rfl, .inl rfl⟩
  · rcases List.mem_cons.1 hp with rfl | hp
    · exact ⟨_, ho, .inr ⟨_, _, rfl, rfl, .cons hv .nil⟩⟩
    · exact ⟨_, hL p hp, .inl rfl⟩
theorem vok_drop {ns o : Nm} {A L : List (Nm × AObj)} {c : Option Nm} {l : List J3} (h : vok ns (A ++ L) o c l) : vok ns L o c l := by
  cases c with
  | none => exact h
  | some m => exact ⟨h.1, h.2.1, fun p hp => h.2.2 p (List.mem_append_right _ hp)⟩
theorem vst_drop {σ : Store} {ns o : Nm} {A L : List (Nm × AObj)} {c : Option Nm} {l : List J3} {es : List (List AV)} (hσ : ∀ n, n.under ns = true → σ n = none) (h : vok ns (A ++ L) o c l) (hA : ∀ p ∈ L, upL σ (A ++ L) p.1 = some p.2) (hLo : ∀ p ∈ L, p.1 ≠ o) (hu : ∀ p ∈ A ++ L, p.1.under ns = true) (ho : o.under ns = true) :
    StWk (vst σ (A ++ L) o c es) (vst σ L o c es) := by
  refine vst_wk hσ (v := gsl c es) ?_ (vst_o h) (.refl _) ?_ ?_
  · intro p hp
    rw [vst_L h (List.mem_map_of_mem (List.mem_append_right _ hp)) (hLo p hp)]
    exact hA p hp
  · rintro m rfl; exact vst_tok
  · intro x hx; exact vst_out h hu ho hx
theorem dr_beq (e d : Dr) : (e.x == d.x && (e.y == d.y && e.n == d.n)) = decide (e = d) := by
  obtain ⟨x, y, n⟩ := e; obtain ⟨x', y', n'⟩ := d
  rw [Bool.eq_iff_iff]; simp
def sol3 (a : Ar) (d : Dr) (i j : Int) (n : Nat) : List J3 := ((upto a.low.c n).map fun k => J3.mk i j k).filter fun q => decide (dC q = d) && fits a q
def sol2 (a : Ar) (at' : V2) (d : Dr) (i : Int) (n : Nat) : List J3 := (upto a.low.b n).flatMap fun j => if pB a ⟨i, j, 0⟩ = at'.sub (offset d a.lens.c) then sol3 a d i j (cnt a.low.c a.high.c) else []
def sol1 (a : Ar) (at' : V2) (d : Dr) (n : Nat) : List J3 := (upto a.low.a n).flatMap fun i => sol2 a at' d i (cnt a.low.b a.high.b)
def sol (a : Ar) (at' : V2) (d : Dr) : List J3 := sol1 a at' d (cnt a.low.a a.high.a)
theorem slen (a : Ar) (at' : V2) (d : Dr) (i j : Int) {n1 n2 n3 : Nat} (hb : cnt a.low.b a.high.b ≤ 36) (hc : cnt a.low.c a.high.c ≤ 36) (h1 : n1 ≤ 36) (h2 : n2 ≤ 36) (h3 : n3 ≤ 36) : (sol1 a at' d n1).length + ((sol2 a at' d i n2).length + (sol3 a d i j n3).length) ≤ 50000 := by
  have a3 : ∀ i j n, (sol3 a d i j n).length ≤ n := fun i j n => by unfold sol3; exact Nat.le_trans (List.length_filter_le _ _) (by simp [upto_length])
  have a2 : ∀ i n, (sol2 a at' d i n).length ≤ n * cnt a.low.c a.high.c := fun i n => by
    have := flat_len (fun j => if pB a ⟨i, j, 0⟩ = at'.sub (offset d a.lens.c) then sol3 a d i j (cnt a.low.c a.high.c) else []) (cnt a.low.c a.high.c) (upto a.low.b n) (fun j => by split; exact a3 ..; simp)
    rwa [upto_length] at this
  have a1 : ∀ n, (sol1 a at' d n).length ≤ n * (cnt a.low.b a.high.b * cnt a.low.c a.high.c) := fun n => by
    have := flat_len (fun i => sol2 a at' d i (cnt a.low.b a.high.b)) (cnt a.low.b a.high.b * cnt a.low.c a.high.c) (upto a.low.a n) (fun j => a2 ..)
    rwa [upto_length] at this
  have b1 := a1 n1
  have b2 := a2 i n2
  have b3 := a3 i j n3
  have c1 := mul36 h1 (mul36 hb hc)
  have c2 := mul36 h2 hc
  omega
theorem upto_get (lo : Int) (n i : Nat) : (upto lo n)[i]? = if i < n then some (lo + i) else none := by
  unfold upto
  rw [List.getElem?_map]
  by_cases h : i < n
  · rw [if_pos h, List.getElem?_range h]; rfl
  · rw [if_neg h, List.getElem?_eq_none (by simpa using h)]; rfl
theorem yget {lo : Int} {n i : Nat} {y : List AV} (h : ((upto lo n).map fun q => [AV.int .i64 q])[i]? = some y) : i < n ∧ y = [.int .i64 (lo + i)] := by
  rw [List.getElem?_map, upto_get] at h
  split at h
  · rename_i hi; simp at h; exact ⟨hi, h.symm⟩
  · simp at h
def sL1 (ns : Nm) (a : Ar) (at' : V2) (d : Dr) : List (Nm × AObj) := [((ns.sub 2).sub 7, .var [.int .i64 (at'.sub (offset d a.lens.c)).1, .int .i64 (at'.sub (offset d a.lens.c)).2]), ((ns.sub 0).sub 2, .var [.int .i64 d.x, .int .i64 d.y, .int .i64 d.n]), ((ns.sub 0).sub 1, .var [.int .i64 at'.1, .int .i64 at'.2]), ((ns.sub 0).sub 0, .var a.cells)]
def sL2 (ns : Nm) (a : Ar) (at' : V2) (d : Dr) (n1 : Nat) (i : Int) : List (Nm × AObj) := [((((ns.sub 4).sub (n1 + 1)).sub 2).sub 8, .var [.int .i64 (pA a ⟨i, 0, 0⟩).1, .int .i64 (pA a ⟨i, 0, 0⟩).2]), ((((ns.sub 4).sub (n1 + 1)).sub 1).sub 3, .var [.int .i64 (dA ⟨i, 0, 0⟩).x, .int .i64 (dA ⟨i, 0, 0⟩).y, .int .i64 (dA ⟨i, 0, 0⟩).n]), ((((ns.sub 4).sub (n1 + 1)).sub 0).sub 0, .var [.int .i64 i])] ++ sL1 ns a at' d
def sL3 (ns : Nm) (a : Ar) (at' : V2) (d : Dr) (n1 n2 : Nat) (i j : Int) : List (Nm × AObj) := [((((((ns.sub 4).sub (n1 + 1)).sub 4).sub (n2 + 1)).sub 1).sub 3, .var [.int .i64 (dB ⟨i, j, 0⟩).x, .int .i64 (dB ⟨i, j, 0⟩).y, .int .i64 (dB ⟨i, j, 0⟩).n]), ((((((ns.sub 4).sub (n1 + 1)).sub 4).sub (n2 + 1)).sub 0).sub 0, .var [.int .i64 j])] ++ sL2 ns a at' d n1 i
theorem sol1_succ (a : Ar) (at' : V2) (d : Dr) (n : Nat) : sol1 a at' d (n + 1) = sol1 a at' d n ++ sol2 a at' d (a.low.a + n) (cnt a.low.b a.high.b) := by
  unfold sol1; rw [upto_succ]; simp
theorem sol2_succ (a : Ar) (at' : V2) (d : Dr) (i : Int) (n : Nat) : sol2 a at' d i (n + 1) = sol2 a at' d i n ++ (if pB a ⟨i, a.low.b + n, 0⟩ = at'.sub (offset d a.lens.c) then sol3 a d i (a.low.b + n) (cnt a.low.c a.high.c) else []) := by
  unfold sol2; rw [upto_succ]; simp
theorem sol3_succ (a : Ar) (d : Dr) (i j : Int) (n : Nat) : sol3 a d i j (n + 1) = sol3 a d i j n ++ (if (decide (dC ⟨i, j, a.low.c + n⟩ = d) && fits a ⟨i, j, a.low.c + n⟩) = true then [⟨i, j, a.low.c + n⟩] else []) := by
  unfold sol3; rw [upto_succ]; simp [List.filter_cons]
set_option maxHeartbeats 16000000 in
theorem solve_pure (a : Ar) (at' : V2) (d : Dr) (h : RightP a) (hd : valid d = true) (hat : -1000000000 ≤ at'.1 ∧ at'.1 ≤ 1000000000 ∧ -1000000000 ≤ at'.2 ∧ at'.2 ≤ 1000000000) : Pure Tryz.prog 128 [a.av, at'.av, d.av] (.sl 3 (jcs (sol a at' d)) .unk) := by
  have hlo := h.low
  have hhi := h.high
  have hrg := h.rg
  have hl := h.lens
  have hoff := off40 hd (n := a.lens.c) (by omega)
  refine pure_val fun σ ns _ => ?_; refine acalls_of_wpc Tryz.mixed Tryz.dr128 Tryz.func128 rfl (Tryz.fit128 _ rfl) Tryz.en128 (fun hσ => ?_); simp [Tryz.ntmps128]
  refine callT_le (Offset_pure d a.lens.c hd (by omega)) ?_
  simp
  refine callT_le (gSub_pure at' (offset d a.lens.c) (by unfold V2.ok; omega) (by unfold V2.ok; omega)) ?_
  simp
  refine Pure.use_le (turns_pure a 0) ?_
  simp
  have w0 : IntKind.wrap .i64 a.low.a = a.low.a := wrap64 (by omega) (by omega)
  refine wpc_range (turns_iter a 0 a.low.a a.high.a (.inl ⟨rfl, rfl, rfl⟩) (by omega)) (α := Nat × Option Nm)
    (fun p => vst σ (sL1 ns a at' d) ((ns.sub 1).sub 0) p.2 (jcs (sol1 a at' d p.1)))
    (fun p => p.1) (fun p => vok ns (sL1 ns a at' d) ((ns.sub 1).sub 0) p.2 (sol1 a at' d p.1)) (0, none)
    (by simp) rfl rfl ?_ ?_ ?_ ?_
  · refine vst_wk hσ (v := .sl 0 [] .nil) ?_ ?_ (by simp [gsl]; exact .refl _) (by simp) ?_
    · simp [sL1]
    · simp
    · intro x hx
      repeat rw [up_other (ns := ns) (by simp [Nm.under]) hx]
  · simp
  · rintro ⟨n1, c1⟩ y hc1 hy hf1
    obtain ⟨hn1, rfl⟩ := yget hy
    simp only at hc1 hn1 hf1
    have w1 : IntKind.wrap .i64 (a.low.a + n1) = a.low.a + n1 := wrap64 (by omega) (by omega)
    have r0 : vst σ (sL1 ns a at' d) ((ns.sub 1).sub 0) c1 (jcs (sol1 a at' d n1)) ((ns.sub 0).sub 0) = some (.var a.cells) := by rw [vst_L hc1 (by simp [sL1]) (by simp)]; simp [sL1]
    have r8 : vst σ (sL1 ns a at' d) ((ns.sub 1).sub 0) c1 (jcs (sol1 a at' d n1)) ((ns.sub 2).sub 7) = some (.var [.int .i64 (at'.sub (offset d a.lens.c)).1, .int .i64 (at'.sub (offset d a.lens.c)).2]) := by rw [vst_L hc1 (by simp [sL1]) (by simp)]; simp [sL1]
    have r2 : vst σ (sL1 ns a at' d) ((ns.sub 1).sub 0) c1 (jcs (sol1 a at' d n1)) ((ns.sub 0).sub 2) = some (.var [.int .i64 d.x, .int .i64 d.y, .int .i64 d.n]) := by rw [vst_L hc1 (by simp [sL1]) (by simp)]; simp [sL1]
    have r1 : vst σ (sL1 ns a at' d) ((ns.sub 1).sub 0) c1 (jcs (sol1 a at' d n1)) ((ns.sub 0).sub 1) = some (.var [.int .i64 at'.1, .int .i64 at'.2]) := by rw [vst_L hc1 (by simp [sL1]) (by simp)]; simp [sL1]
    have ro := vst_o (σ := σ) (es := jcs (sol1 a at' d n1)) hc1
    have hok := points_ok h ⟨a.low.a + n1, 0, 0⟩
    simp [bindT]
    refine Pure.use_le (show Pure Tryz.prog 63 [.agg [.int .i64 1, .int .i64 0, .int .i64 0], .int .i64 (a.low.a + n1)] (dA ⟨a.low.a + n1, 0, 0⟩).av from compose1_pure ⟨a.low.a + n1, 0, 0⟩) ?_
    simp [r0]
    refine callT_le (offA h ⟨a.low.a + n1, 0, 0⟩) ?_
    simp [r0]
    refine callT_le (show Pure Tryz.prog 37 [a.base.av, (offset (dA ⟨a.low.a + n1, 0, 0⟩) a.lens.a).av] (pA a ⟨a.low.a + n1, 0, 0⟩).av from gAdd_pure _ _ hok.1 hok.2.2.2.2.1) ?_
    simp [r0]
    refine Pure.use_le (turns_pure a 1) ?_
    simp
    have f9 := hf1 ((((ns.sub 4).sub (n1 + 1)).sub 0).sub 0) (by simp [Nm.under])
    have f10 := hf1 ((((ns.sub 4).sub (n1 + 1)).sub 1).sub 3) (by simp [Nm.under])
    have f11 := hf1 ((((ns.sub 4).sub (n1 + 1)).sub 2).sub 8) (by simp [Nm.under])
    have hok2 : vok ns (sL2 ns a at' d n1 (a.low.a + n1)) ((ns.sub 1).sub 0) c1 (sol1 a at' d n1 ++ sol2 a at' d (a.low.a + n1) 0) := by
      cases c1 with
      | none => simpa [vok, sol2] using hc1
      | some m =>
        refine ⟨hc1.1, hc1.2.1, ?_⟩
        intro p hp
        simp only [sL2, List.cons_append, List.nil_append, List.mem_cons] at hp
        rcases hp with rfl | rfl | rfl | hp
        · rintro rfl; rw [vst_tok] at f11; cases f11
        · rintro rfl; rw [vst_tok] at f10; cases f10
        · rintro rfl; rw [vst_tok] at f9; cases f9
        · exact hc1.2.2 p hp
    refine wpc_range (turns_iter a 1 a.low.b a.high.b (.inr (.inl ⟨rfl, rfl, rfl⟩)) (by omega)) (α := Nat × Option Nm)
      (fun p => vst σ (sL2 ns a at' d n1 (a.low.a + n1)) ((ns.sub 1).sub 0) p.2 (jcs (sol1 a at' d n1 ++ sol2 a at' d (a.low.a + n1) p.1)))
      (fun p => p.1) (fun p => vok ns (sL2 ns a at' d n1 (a.low.a + n1)) ((ns.sub 1).sub 0) p.2 (sol1 a at' d n1 ++ sol2 a at' d (a.low.a + n1) p.1)) (0, c1)
      (by simp) rfl hok2 ?_ ?_ ?_ ?_
    · refine vst_wk hσ (v := gsl c1 (jcs (sol1 a at' d n1))) ?_ ?_ (by simp [sol2]; exact .refl _) ?_ ?_
      · intro p hp
        simp only [sL2, List.cons_append, List.nil_append, List.mem_cons] at hp
        rcases hp with rfl | rfl | rfl | hp
        · simp
        · simp
        · simp
        · simp only [sL1, List.mem_cons, List.not_mem_nil, or_false] at hp
          rcases hp with rfl | rfl | rfl | rfl
          · simp [r8]
          · simp [r2]
          · simp [r1]
          · simp [r0]
      · simp [ro]
      · rintro m rfl
        have e1 : m ≠ _ := hok2.2.2 _ (List.mem_cons_self ..)
        have e2 : m ≠ _ := hok2.2.2 _ (List.mem_cons_of_mem _ (List.mem_cons_self ..))
        have e3 : m ≠ _ := hok2.2.2 _ (List.mem_cons_of_mem _ (List.mem_cons_of_mem _ (List.mem_cons_self ..)))
        simp only [Store.up_get]
        rw [if_neg e1, if_neg e2, if_neg e3, vst_tok]
      · intro x hx
        repeat rw [up_other (ns := ns) (by simp [Nm.under]) hx]
        exact vst_out hc1 (by simp [sL1, Nm.under]) (by simp [Nm.under]) hx
    · simp
    · rintro ⟨n2, c2⟩ y hc2 hy hf2
      obtain ⟨hn2, rfl⟩ := yget hy
      simp only at hc2 hn2 hf2
      have q0 : vst σ (sL2 ns a at' d n1 (a.low.a + n1)) ((ns.sub 1).sub 0) c2 (jcs (sol1 a at' d n1 ++ sol2 a at' d (a.low.a + n1) n2)) ((ns.sub 0).sub 0) = some (.var a.cells) := by rw [vst_L hc2 (by simp [sL2, sL1]) (by simp)]; simp [sL2, sL1]
      have q8 : vst σ (sL2 ns a at' d n1 (a.low.a + n1)) ((ns.sub 1).sub 0) c2 (jcs (sol1 a at' d n1 ++ sol2 a at' d (a.low.a + n1) n2)) ((ns.sub 2).sub 7) = some (.var [.int .i64 (at'.sub (offset d a.lens.c)).1, .int .i64 (at'.sub (offset d a.lens.c)).2]) := by rw [vst_L hc2 (by simp [sL2, sL1]) (by simp)]; simp [sL2, sL1]
      have q2 : vst σ (sL2 ns a at' d n1 (a.low.a + n1)) ((ns.sub 1).sub 0) c2 (jcs (sol1 a at' d n1 ++ sol2 a at' d (a.low.a + n1) n2)) ((ns.sub 0).sub 2) = some (.var [.int .i64 d.x, .int .i64 d.y, .int .i64 d.n]) := by rw [vst_L hc2 (by simp [sL2, sL1]) (by simp)]; simp [sL2, sL1]
      have q10 : vst σ (sL2 ns a at' d n1 (a.low.a + n1)) ((ns.sub 1).sub 0) c2 (jcs (sol1 a at' d n1 ++ sol2 a at' d (a.low.a + n1) n2)) ((((ns.sub 4).sub (n1 + 1)).sub 1).sub 3) = some (.var [.int .i64 (dA ⟨a.low.a + n1, 0, 0⟩).x, .int .i64 (dA ⟨a.low.a + n1, 0, 0⟩).y, .int .i64 (dA ⟨a.low.a + n1, 0, 0⟩).n]) := by rw [vst_L hc2 (by simp [sL2, sL1]) (by simp)]; simp [sL2, sL1]
      have q11 : vst σ (sL2 ns a at' d n1 (a.low.a + n1)) ((ns.sub 1).sub 0) c2 (jcs (sol1 a at' d n1 ++ sol2 a at' d (a.low.a + n1) n2)) ((((ns.sub 4).sub (n1 + 1)).sub 2).sub 8) = some (.var [.int .i64 (pA a ⟨a.low.a + n1, 0, 0⟩).1, .int .i64 (pA a ⟨a.low.a + n1, 0, 0⟩).2]) := by rw [vst_L hc2 (by simp [sL2, sL1]) (by simp)]; simp [sL2, sL1]
      have qo := vst_o (σ := σ) (es := jcs (sol1 a at' d n1 ++ sol2 a at' d (a.low.a + n1) n2)) hc2
      have hok3 := points_ok h ⟨a.low.a + n1, a.low.b + n2, 0⟩
      simp [bindT, q10]
      refine Pure.use_le (show Pure Tryz.prog 63 [(dA ⟨a.low.a + n1, 0, 0⟩).av, .int .i64 (a.low.b + n2)] (dB ⟨a.low.a + n1, a.low.b + n2, 0⟩).av from compose2_pure ⟨a.low.a + n1, a.low.b + n2, 0⟩) ?_
      simp [q0, q11]
      refine callT_le (offB h ⟨a.low.a + n1, a.low.b + n2, 0⟩) ?_
      simp [q0, q11]
      refine callT_le (show Pure Tryz.prog 37 [(pA a ⟨a.low.a + n1, 0, 0⟩).av, (offset (dB ⟨a.low.a + n1, a.low.b + n2, 0⟩) a.lens.b).av] (pB a ⟨a.low.a + n1, a.low.b + n2, 0⟩).av from gAdd_pure _ _ hok3.2.1 hok3.2.2.2.2.2.1) ?_
      simp [q8]
      refine condK_cases (fun hx => ?_) (fun hx => ?_)
      · simp
        have hne : ¬ pB a ⟨a.low.a + n1, a.low.b + n2, 0⟩ = at'.sub (offset d a.lens.c) := fun e => by rw [e] at hx; simp at hx
        have hsucc := sol2_succ a at' d (a.low.a + n1) n2
        rw [if_neg hne, List.append_nil] at hsucc
        refine round_normal (n2 + 1, c2) rfl (by simp only; rw [hsucc]; exact hc2) ?_
        simp only [hsucc]
        exact StWeak.same (by simp [Nm.under])
      · have heq : pB a ⟨a.low.a + n1, a.low.b + n2, 0⟩ = at'.sub (offset d a.lens.c) := by
          simp at hx; exact Prod.ext hx.1 hx.2
        have hsucc := sol2_succ a at' d (a.low.a + n1) n2
        rw [if_pos heq] at hsucc
        simp [q0]
        refine Pure.use_le (turns_pure a 2) ?_
        simp
        have f12 := hf2 ((((((ns.sub 4).sub (n1 + 1)).sub 4).sub (n2 + 1)).sub 0).sub 0) (by simp [Nm.under])
        have f13 := hf2 ((((((ns.sub 4).sub (n1 + 1)).sub 4).sub (n2 + 1)).sub 1).sub 3) (by simp [Nm.under])
        have hok4 : vok ns (sL3 ns a at' d n1 n2 (a.low.a + n1) (a.low.b + n2)) ((ns.sub 1).sub 0) c2 (sol1 a at' d n1 ++ (sol2 a at' d (a.low.a + n1) n2 ++ sol3 a d (a.low.a + n1) (a.low.b + n2) 0)) := by
          cases c2 with
          | none => simpa [vok, sol3] using hc2
          | some m =>
            refine ⟨hc2.1, hc2.2.1, ?_⟩
            intro p hp
            simp only [sL3, List.cons_append, List.nil_append, List.mem_cons] at hp
            rcases hp with rfl | rfl | hp
            · rintro rfl; rw [vst_tok] at f13; cases f13
            · rintro rfl; rw [vst_tok] at f12; cases f12
            · exact hc2.2.2 p hp
        refine wpc_range (turns_iter a 2 a.low.c a.high.c (.inr (.inr ⟨rfl, rfl, rfl⟩)) (by omega)) (α := Nat × Option Nm)
          (fun p => vst σ (sL3 ns a at' d n1 n2 (a.low.a + n1) (a.low.b + n2)) ((ns.sub 1).sub 0) p.2 (jcs (sol1 a at' d n1 ++ (sol2 a at' d (a.low.a + n1) n2 ++ sol3 a d (a.low.a + n1) (a.low.b + n2) p.1))))
          (fun p => p.1) (fun p => vok ns (sL3 ns a at' d n1 n2 (a.low.a + n1) (a.low.b + n2)) ((ns.sub 1).sub 0) p.2 (sol1 a at' d n1 ++ (sol2 a at' d (a.low.a + n1) n2 ++ sol3 a d (a.low.a + n1) (a.low.b + n2) p.1))) (0, c2)
          (by simp) rfl hok4 ?_ ?_ ?_ ?_
        · refine vst_wk hσ (v := gsl c2 (jcs (sol1 a at' d n1 ++ sol2 a at' d (a.low.a + n1) n2))) ?_ ?_ (by simp [sol3]; exact .refl _) ?_ ?_
          · intro p hp
            simp only [sL3, List.cons_append, List.nil_append, List.mem_cons] at hp
            rcases hp with rfl | rfl | hp
            · simp
            · simp
            · have hp' := hp
              simp only [sL2, sL1, List.cons_append, List.nil_append, List.mem_cons, List.not_mem_nil, or_false] at hp
              rcases hp with rfl | rfl | rfl | rfl | rfl | rfl | rfl <;> simp <;> rw [vst_L hc2 (by simp [sL2, sL1]) (by simp)] <;> simp [sL2, sL1]
          · simp [qo]
          · rintro m rfl
            have e1 : m ≠ _ := hok4.2.2 _ (List.mem_cons_self ..)
            have e2 : m ≠ _ := hok4.2.2 _ (List.mem_cons_of_mem _ (List.mem_cons_self ..))
            simp only [Store.up_get]
            rw [if_neg e1, if_neg e2, vst_tok]
          · intro x hx
            repeat rw [up_other (ns := ns) (by simp [Nm.under]) hx]
            exact vst_out hc2 (by simp [sL2, sL1, Nm.under]) (by simp [Nm.under]) hx
        · simp
        · rintro ⟨n3, c3⟩ y hc3 hy hf3
          obtain ⟨hn3, rfl⟩ := yget hy
          simp only at hc3 hn3 hf3
          have p9 : vst σ (sL3 ns a at' d n1 n2 (a.low.a + n1) (a.low.b + n2)) ((ns.sub 1).sub 0) c3 (jcs (sol1 a at' d n1 ++ (sol2 a at' d (a.low.a + n1) n2 ++ sol3 a d (a.low.a + n1) (a.low.b + n2) n3))) ((((ns.sub 4).sub (n1 + 1)).sub 0).sub 0) = some (.var [.int .i64 (a.low.a + n1)]) := by rw [vst_L hc3 (by simp [sL3, sL2, sL1]) (by simp)]; simp [sL3, sL2, sL1]
          have p12 : vst σ (sL3 ns a at' d n1 n2 (a.low.a + n1) (a.low.b + n2)) ((ns.sub 1).sub 0) c3 (jcs (sol1 a at' d n1 ++ (sol2 a at' d (a.low.a + n1) n2 ++ sol3 a d (a.low.a + n1) (a.low.b + n2) n3))) ((((((ns.sub 4).sub (n1 + 1)).sub 4).sub (n2 + 1)).sub 0).sub 0) = some (.var [.int .i64 (a.low.b + n2)]) := by rw [vst_L hc3 (by simp [sL3, sL2, sL1]) (by simp)]; simp [sL3, sL2, sL1]
          have p13 : vst σ (sL3 ns a at' d n1 n2 (a.low.a + n1) (a.low.b + n2)) ((ns.sub 1).sub 0) c3 (jcs (sol1 a at' d n1 ++ (sol2 a at' d (a.low.a + n1) n2 ++ sol3 a d (a.low.a + n1) (a.low.b + n2) n3))) ((((((ns.sub 4).sub (n1 + 1)).sub 4).sub (n2 + 1)).sub 1).sub 3) = some (.var [.int .i64 (dB ⟨a.low.a + n1, a.low.b + n2, 0⟩).x, .int .i64 (dB ⟨a.low.a + n1, a.low.b + n2, 0⟩).y, .int .i64 (dB ⟨a.low.a + n1, a.low.b + n2, 0⟩).n]) := by rw [vst_L hc3 (by simp [sL3, sL2, sL1]) (by simp)]; simp [sL3, sL2, sL1]
          have p2 : vst σ (sL3 ns a at' d n1 n2 (a.low.a + n1) (a.low.b + n2)) ((ns.sub 1).sub 0) c3 (jcs (sol1 a at' d n1 ++ (sol2 a at' d (a.low.a + n1) n2 ++ sol3 a d (a.low.a + n1) (a.low.b + n2) n3))) ((ns.sub 0).sub 2) = some (.var [.int .i64 d.x, .int .i64 d.y, .int .i64 d.n]) := by rw [vst_L hc3 (by simp [sL3, sL2, sL1]) (by simp)]; simp [sL3, sL2, sL1]
          have p0 : vst σ (sL3 ns a at' d n1 n2 (a.low.a + n1) (a.low.b + n2)) ((ns.sub 1).sub 0) c3 (jcs (sol1 a at' d n1 ++ (sol2 a at' d (a.low.a + n1) n2 ++ sol3 a d (a.low.a + n1) (a.low.b + n2) n3))) ((ns.sub 0).sub 0) = some (.var a.cells) := by rw [vst_L hc3 (by simp [sL3, sL2, sL1]) (by simp)]; simp [sL3, sL2, sL1]
          have po := vst_o (σ := σ) (es := jcs (sol1 a at' d n1 ++ (sol2 a at' d (a.low.a + n1) n2 ++ sol3 a d (a.low.a + n1) (a.low.b + n2) n3))) hc3
          have hsucc3 := sol3_succ a d (a.low.a + n1) (a.low.b + n2) n3
          simp [bindT, p9, p12, p13, p2, p0]
          refine callT_le (show Pure Tryz.prog 63 [(dB ⟨a.low.a + n1, a.low.b + n2, 0⟩).av, .int .i64 (a.low.c + n3)] (dC ⟨a.low.a + n1, a.low.b + n2, a.low.c + n3⟩).av from compose3_pure ⟨a.low.a + n1, a.low.b + n2, a.low.c + n3⟩) ?_
          simp [p9, p12, p13, p2, p0, dr_beq]
          refine guardK_cases (fun hg => ?_) (fun hg => ?_) <;> simp [hg, p0]
          · refine Pure.use_le (inLimits_pure a ⟨a.low.a + n1, a.low.b + n2, a.low.c + n3⟩) ?_
            simp
            refine condK_cases (fun hr => ?_) (fun hr => ?_)
            · rw [if_pos (by simp [hr]; simpa using hg)] at hsucc3
              have hlen := slen a at' d (a.low.a + n1) (a.low.b + n2) (n1 := n1) (n2 := n2) (n3 := n3) (by unfold cnt; omega) (by unfold cnt; omega) (by omega) (by omega) (by omega)
              have hb : ((sol1 a at' d n1).length + ((sol2 a at' d (a.low.a + n1) n2).length + (sol3 a d (a.low.a + n1) (a.low.b + n2) n3).length) + 1) * 24 ≤ 140737488355328 := by omega
              have hread : ∀ p ∈ sL3 ns a at' d n1 n2 (a.low.a + n1) (a.low.b + n2), vst σ (sL3 ns a at' d n1 n2 (a.low.a + n1) (a.low.b + n2)) ((ns.sub 1).sub 0) c3 (jcs (sol1 a at' d n1 ++ (sol2 a at' d (a.low.a + n1) n2 ++ sol3 a d (a.low.a + n1) (a.low.b + n2) n3))) p.1 = some p.2 := by
                intro p hp
                simp only [sL3, sL2, sL1, List.cons_append, List.nil_append, List.mem_cons, List.not_mem_nil, or_false] at hp
                rcases hp with rfl | rfl | rfl | rfl | rfl | rfl | rfl | rfl | rfl <;> rw [vst_L hc3 (by simp [sL3, sL2, sL1]) (by simp)] <;> simp [sL3, sL2, sL1]
              have hne : ∀ p ∈ sL3 ns a at' d n1 n2 (a.low.a + n1) (a.low.b + n2), ∀ x, x.under ((((((ns.sub 4).sub (n1 + 1)).sub 4).sub (n2 + 1)).sub 4).sub (n3 + 1)) = true → ¬ p.1 = x := fun p hp x hx e => by
                have := hf3 x hx; rw [← e, hread p hp] at this; cases this
              have hno : ∀ p ∈ sL3 ns a at' d n1 n2 (a.low.a + n1) (a.low.b + n2), ¬ p.1 = (ns.sub 1).sub 0 := by simp [sL3, sL2, sL1]
              have hund : ∀ p ∈ sL3 ns a at' d n1 n2 (a.low.a + n1) (a.low.b + n2), p.1.under ns = true := by simp [sL3, sL2, sL1, Nm.under]
              have hvok : vok ns (sL3 ns a at' d n1 n2 (a.low.a + n1) (a.low.b + n2)) ((ns.sub 1).sub 0) (some ((((((((ns.sub 4).sub (n1 + 1)).sub 4).sub (n2 + 1)).sub 4).sub (n3 + 1)).sub 3).sub 3)) (sol1 a at' d n1 ++ (sol2 a at' d (a.low.a + n1) n2 ++ sol3 a d (a.low.a + n1) (a.low.b + n2) (n3 + 1))) :=
                ⟨by simp [Nm.under], by simp, fun p hp e => hne p hp _ (by simp [Nm.under]) e.symm⟩
              cases c3 with
              | none =>
                simp only [vok] at hc3
                simp [po, gsl_none]
                refine round_normal (n3 + 1, some ((((((((ns.sub 4).sub (n1 + 1)).sub 4).sub (n2 + 1)).sub 4).sub (n3 + 1)).sub 3).sub 3)) rfl hvok (StWk.weak (vst_wk hσ (v := .sl 3 [[.int .i64 (a.low.a + n1), .int .i64 (a.low.b + n2), .int .i64 (a.low.c + n3)]] (.tok ((((((((ns.sub 4).sub (n1 + 1)).sub 4).sub (n2 + 1)).sub 4).sub (n3 + 1)).sub 3).sub 3))) ?_ ?_ ?_ ?_ ?_))
                · intro p hp
                  simp only [Store.up_get]
                  rw [if_neg (hno p hp), if_neg (hne p hp _ (by simp [Nm.under])), if_neg (hne p hp _ (by simp [Nm.under])), hread p hp]
                · simp
                · simp only [hsucc3, gsl_some]
                  rw [← List.append_assoc, ← List.append_assoc, List.append_assoc (sol1 a at' d n1), hc3]
                  exact .refl _
                · rintro m hm
                  simp only [Option.some.injEq] at hm
                  subst hm
                  simp
                · intro x hx
                  repeat rw [up_other (ns := ns) (by simp [Nm.under]) hx]
                  exact vst_out (c := none) (l := []) rfl hund (by simp [Nm.under]) hx
              | some m =>
                have hm : ∀ x, x.under ((((((ns.sub 4).sub (n1 + 1)).sub 4).sub (n2 + 1)).sub 4).sub (n3 + 1)) = true → ¬ m = x := fun x hx e => by
                  have := hf3 x hx; rw [← e, vst_tok] at this; cases this
                have hq := hm ((((((((ns.sub 4).sub (n1 + 1)).sub 4).sub (n2 + 1)).sub 4).sub (n3 + 1)).sub 1).sub 4) (by simp [Nm.under])
                have hn := hm ((((((((ns.sub 4).sub (n1 + 1)).sub 4).sub (n2 + 1)).sub 4).sub (n3 + 1)).sub 3).sub 3) (by simp [Nm.under])
                have hmo : ¬ m = (ns.sub 1).sub 0 := hc3.2.1
                have hq' : ¬ _ = m := fun e => hq e.symm
                have hn' : ¬ _ = m := fun e => hn e.symm
                have hmo' : ¬ _ = m := fun e => hmo e.symm
                simp [po, gsl_some, hb, hq, hn, hmo, hq', hn', hmo', vst_tok]
                refine round_normal (n3 + 1, some ((((((((ns.sub 4).sub (n1 + 1)).sub 4).sub (n2 + 1)).sub 4).sub (n3 + 1)).sub 3).sub 3)) rfl hvok (StWk.weak (vst_wk hσ (v := .sl 3 (jcs (sol1 a at' d n1 ++ (sol2 a at' d (a.low.a + n1) n2 ++ sol3 a d (a.low.a + n1) (a.low.b + n2) n3)) ++ [[.int .i64 (a.low.a + n1), .int .i64 (a.low.b + n2), .int .i64 (a.low.c + n3)]]) (.tok ((((((((ns.sub 4).sub (n1 + 1)).sub 4).sub (n2 + 1)).sub 4).sub (n3 + 1)).sub 3).sub 3))) ?_ ?_ ?_ ?_ ?_))
                · intro p hp
                  simp only [Store.up_get, Store.del]
                  rw [if_neg (hno p hp), if_neg (hne p hp _ (by simp [Nm.under])), if_neg (fun e => hc3.2.2 p hp e.symm), if_neg (hne p hp _ (by simp [Nm.under])), hread p hp]
                · simp
                · simp only [hsucc3, gsl_some]
                  rw [jcs_snoc (sol1 a at' d n1 ++ (sol2 a at' d (a.low.a + n1) n2 ++ sol3 a d (a.low.a + n1) (a.low.b + n2) n3)) ⟨a.low.a + n1, a.low.b + n2, a.low.c + n3⟩, List.append_assoc, List.append_assoc]
                  exact .refl _
                · rintro m' hm'
                  simp only [Option.some.injEq] at hm'
                  subst hm'
                  simp
                · intro x hx
                  rw [up_other (ns := ns) (by simp [Nm.under]) hx, up_other (ns := ns) (by simp [Nm.under]) hx, del_other (ns := ns) hc3.1 hx, up_other (ns := ns) (by simp [Nm.under]) hx]
                  exact vst_out hc3 hund (by simp [Nm.under]) hx
            · rw [if_neg (by simp [hr]), List.append_nil] at hsucc3
              simp
              refine round_normal (n3 + 1, c3) rfl (by simp only; rw [hsucc3]; exact hc3) ?_
              simp only [hsucc3]
              exact StWeak.same (by simp [Nm.under])
          · rw [if_neg (by simp at hg; simp [hg]), List.append_nil] at hsucc3
            refine round_normal (n3 + 1, c3) rfl (by simp only; rw [hsucc3]; exact hc3) ?_
            simp only [hsucc3]
            exact StWeak.same (by simp [Nm.under])
        · rintro ⟨n3, c3⟩ hc3 hn3
          simp only at hc3 hn3
          obtain rfl : n3 = cnt a.low.c a.high.c := by rw [hn3]; simp [upto_length, cnt]
          simp
          rw [← hsucc] at hc3
          rw [← hsucc]
          refine round_normal (n2 + 1, c3) rfl (vok_drop hc3) (StWk.weak (vst_drop hσ hc3 ?_ ?_ ?_ (by simp [Nm.under])))
          · simp [sL2, sL1]
          · simp [sL2, sL1]
          · simp [sL2, sL1, Nm.under]
    · rintro ⟨n2, c2⟩ hc2 hn2
      simp only at hc2 hn2
      obtain rfl : n2 = cnt a.low.b a.high.b := by rw [hn2]; simp [upto_length, cnt]
      simp
      rw [← sol1_succ] at hc2 ⊢
      refine round_normal (n1 + 1, c2) rfl (vok_drop hc2) (StWk.weak (vst_drop hσ hc2 ?_ ?_ ?_ (by simp [Nm.under])))
      · simp [sL1]
      · simp [sL1]
      · simp [sL1, Nm.under]
  · rintro ⟨n1, c1⟩ hc1 hn1
    simp only at hc1 hn1
    have ro := vst_o (σ := σ) (es := jcs (sol1 a at' d n1)) hc1
    obtain rfl : n1 = cnt a.low.a a.high.a := by rw [hn1]; simp [upto_length, cnt]
    simp [ro]
    refine endA_weak (v' := .sl 3 (jcs (sol a at' d)) .unk) ?_ ?_
    · cases c1 with
      | none => simp only [vok] at hc1; rw [sol, hc1]; exact .unk0
      | some m => exact .unk
    · refine StWeak.same ?_
      cases c1 with
      | none => simp [vst, gtok, sL1]
      | some m => simp [vst, gtok, sL1, hc1.1]
end Go.Proofs

/- Walks over lists of configurations. -/
set_option linter.unusedVariables false
set_option linter.unusedSimpArgs false
set_option maxRecDepth 100000
namespace Go.Proofs
open Go Go.Abs
attribute [local irreducible] wpc aSeq awAny endA guardK condK CallK callT aPlan onlyL takeL aeffK takeE loopG bodyA thenA inBlockA planK roundG assignG bodyI endI YieldK unrollG
theorem jcs_get {l : List J3} {i : Nat} {q : J3} (h : l[i]? = some q) : (jcs l)[i]? = some [.int .i64 q.a, .int .i64 q.b, .int .i64 q.c] := by
  unfold jcs; rw [List.getElem?_map, h]; rfl
theorem j3_beq (e d : J3) : (e.a == d.a && (e.b == d.b && e.c == d.c)) = decide (e = d) := by
  obtain ⟨x, y, n⟩ := e; obtain ⟨x', y', n'⟩ := d
  rw [Bool.eq_iff_iff]; simp
theorem aeq3 (x y : J3) : aeqElems Tryz.prog 8 3 1 [.int .i64 x.a, .int .i64 x.b, .int .i64 x.c] [.int .i64 y.a, .int .i64 y.b, .int .i64 y.c] (List.range 3) = some (decide (x = y)) := by
  rw [show List.range 3 = [0, 1, 2] from rfl, ← j3_beq]
  simp [aeqElems, apart, aeq]
end Go.Proofs

/- Walks: the nearest configuration. -/
set_option linter.unusedVariables false
set_option linter.unusedSimpArgs false
set_option maxRecDepth 100000
namespace Go.Proofs
open Go Go.Abs
attribute [local irreducible] wpc aSeq awAny endA guardK condK CallK callT aPlan onlyL takeL aeffK takeE loopG bodyA thenA inBlockA planK roundG assignG bodyI endI YieldK unrollG
abbrev j0 : J3 := ⟨0, 0, 0⟩
/-- The first nearest among the first n. -/
def bestI (l : List J3) (q : J3) : Nat → Nat
  | 0 => 0
  | n + 1 => if dist (l.getD n j0) q < dist (l.getD (bestI l q n) j0) q then n else bestI l q n
theorem bestI_lt (l : List J3) (q : J3) : ∀ n, bestI l q n < n ∨ (bestI l q n = 0)
  | 0 => .inr rfl
  | n + 1 => by
    unfold bestI; split
    · exact .inl (Nat.lt_succ_self _)
    · rcases bestI_lt l q n with h | h
      · exact .inl (Nat.lt_succ_of_lt h)
      · exact .inr h
def near3 (l : List J3) (q : J3) : J3 × Bool := if l = [] then (j0, false) else (l.getD (bestI l q l.length) j0, true)
theorem getD_some {l : List J3} {i : Nat} (h : i < l.length) : l[i]? = some (l.getD i j0) := by
  rw [List.getElem?_eq_getElem h]; simp [List.getD, h]
theorem getD_mem {l : List J3} {i : Nat} (h : i < l.length) : l.getD i j0 ∈ l := by
  simp [List.getD, h]
theorem dist_bound {p q : J3} (hp : small p = true) (hq : small q = true) : 0 ≤ dist p q ∧ dist p q ≤ 6000 := by
  have h1 := small_spec hp
  have h2 := small_spec hq
  unfold dist mx
  split <;> split <;> split <;> omega
set_option maxHeartbeats 4000000 in
theorem near_pure (l : List J3) (q : J3) (hl : l.length ≤ 100000) (hs : ∀ x ∈ l, small x = true) (hq : small q = true) : Pure Tryz.prog 130 [.sl 3 (jcs l) .unk, q.av] (.tup [(near3 l q).1.av, .bool (near3 l q).2]) := by
  refine pure_val fun σ ns _ => ?_; refine acalls_of_wpc Tryz.mixed Tryz.dr130 Tryz.func130 rfl (Tryz.fit130 _ rfl) Tryz.en130 (fun hσ => ?_); simp [Tryz.ntmps130]
  refine condK_cases (fun h => ?_) (fun h => ?_) <;> simp at h
  · subst h
    simp
    exact endA_eq (by simp [near3]) (by simp)
  have hpos : 0 < l.length := by cases l with | nil => exact (h rfl).elim | cons x l => simp
  simp
  refine wpc_loop0 (fun i : Nat => [(6, .any), (7, .any), (8, .any), (9, .any), (14, .any), (15, .any), (16, .any), (17, .any), (18, .any), (19, .any), (20, .any), (21, .any), (22, .any), (23, .any), (24, .any), (25, .any), (26, .any), (27, .any), (28, .any), (29, .any), (30, .any), (31, .any), (32, .any), (33, .any), (34, .any), (35, .any),  (6, .int .i64 (bestI l q i)), (7, .int .i64 i)]) (fun i => l.length - i) (fun i => 1 ≤ i ∧ i ≤ l.length) 1 (by omega) ?_ ?_
  · simp [bestI]
    (repeat' first | exact AVsle.nil | refine AVsle.cons (AVle.any _) ?_ | refine AVsle.cons (AVle.refl _) ?_ | refine AVsle.cons AVLe.le ?_)
  rintro i k ⟨h1, hi⟩
  have hb : bestI l q i < l.length := by have := bestI_lt l q i; omega
  have gb := getD_some hb
  have mb := hs _ (getD_mem hb)
  simp
  refine condK_cases (fun h2 => ?_) (fun h2 => ?_) <;> simp at h2
  · have gi := getD_some h2
    have mi := hs _ (getD_mem h2)
    have hsucc : bestI l q (i + 1) = if dist (l.getD i j0) q < dist (l.getD (bestI l q i) j0) q then i else bestI l q i := rfl
    generalize l.getD i j0 = x at gi mi hsucc
    generalize l.getD (bestI l q i) j0 = y at gb mb hsucc
    have w : IntKind.wrap .i64 (i + 1) = i + 1 := wrap64 (by omega) (by omega)
    simp [jcs_get gi]
    refine Pure.use_le (far_pure x q mi hq) ?_
    simp [jcs_get gb]
    refine Pure.use_le (far_pure y q mb hq) ?_
    simp
    refine condK_cases (fun h3 => ?_) (fun h3 => ?_) <;> simp at h3
    · rw [if_pos h3] at hsucc
      simp [w]
      refine loopG_normal (i + 1) (by omega) (by omega) ?_ ?_ rfl rfl
      · simp [hsucc]
        (repeat' first | exact AVsle.nil | refine AVsle.cons (AVle.any _) ?_ | refine AVsle.cons (AVle.refl _) ?_ | refine AVsle.cons AVLe.le ?_)
      · exact StWk.weak (.refl _)
    · rw [if_neg (by omega)] at hsucc
      simp [w]
      refine loopG_normal (i + 1) (by omega) (by omega) ?_ ?_ rfl rfl
      · simp [hsucc]
        (repeat' first | exact AVsle.nil | refine AVsle.cons (AVle.any _) ?_ | refine AVsle.cons (AVle.refl _) ?_ | refine AVsle.cons AVLe.le ?_)
      · exact StWk.weak (.refl _)
  · obtain rfl : i = l.length := by omega
    simp [jcs_get gb]
    exact endA_eq (by simp [near3, h]) (by simp)
set_option maxHeartbeats 4000000 in
theorem take_acalls (x b q : J3) (t : Bool) (hx : small x = true) (hb : small b = true) (hq : small q = true) {σ : Store} {ns n1 n2 n3 : Nm} (h1 : σ n1 = some (.var [.bool t])) (h2 : σ n2 = some (.var q.cells)) (h3 : σ n3 = some (.var b.cells)) (h13 : n1 ≠ n3) :
    ACalls Tryz.prog 140 [x.av, .ptr n1 0, .ptr n2 0, .ptr n3 0] σ ns fun e σ' => e = .ret (.tup []) ∧ σ' = if t = false ∨ dist x q < dist b q then (σ.up n3 (.var x.cells)).up n1 (.var [.bool true]) else σ := by
  refine acalls_val fun ns _ hns => ?_; refine acalls_of_wpc Tryz.mixed Tryz.dr140 Tryz.func140 rfl (Tryz.fit140 _ rfl) Tryz.en140 (fun hσ => ?_); simp [Tryz.ntmps140]
  have hu : ∀ {n : Nm} {o : AObj}, σ n = some o → n.under ns = false := fun {n o} h => by cases hh : n.under ns with | false => rfl | true => rw [hσ n hh] at h; cases h
  have u1 : ¬ n1 = (ns.sub 0).sub 0 := fun e => by have := hu h1; rw [e] at this; simp [Nm.under] at this
  have u2 : ¬ n2 = (ns.sub 0).sub 0 := fun e => by have := hu h2; rw [e] at this; simp [Nm.under] at this
  have u3 : ¬ n3 = (ns.sub 0).sub 0 := fun e => by have := hu h3; rw [e] at this; simp [Nm.under] at this
  have v1 : ¬ (ns.sub 0).sub 0 = n1 := fun e => u1 e.symm
  have v3 : ¬ (ns.sub 0).sub 0 = n3 := fun e => u3 e.symm
  have w13 : ¬ n1 = n3 := h13
  have w31 : ¬ n3 = n1 := fun e => h13 e.symm
  have f1 := hu h1
  have f3 := hu h3
  simp [u1, u2, u3, h1, h2, h3]
  refine guardK_cases (fun hg => ?_) (fun hg => ?_) <;> simp [hg, u1, u2, u3, h1, h2, h3]
  · simp at hg
    subst hg
    simp [u1, u2, u3, v1, v3, w13, w31, h1, h2, h3]
    refine endA_intro (StWeak.of_eq ?_) ⟨rfl, rfl⟩
    rw [restoreS_up_out f1, restoreS_up_out f3, restoreS_up_own (by simp [Nm.under])]
    simp
  · simp at hg
    subst hg
    refine callT_le (distance_pure x q hx hq) ?_
    simp [u1, u2, u3, h1, h2, h3]
    refine Pure.use_le (distance_pure b q hb hq) ?_
    simp [u1, u2, u3, h1, h2, h3]
    refine condK_cases (fun hc => ?_) (fun hc => ?_) <;> simp at hc
    · simp [u1, u2, u3, v1, v3, w13, w31, h1, h2, h3]
      refine endA_intro (StWeak.of_eq ?_) ⟨rfl, by rw [if_pos hc]⟩
      rw [restoreS_up_out f1, restoreS_up_out f3, restoreS_up_own (by simp [Nm.under])]
      simp
    · simp
      refine endA_intro (StWeak.of_eq ?_) ⟨rfl, by rw [if_neg (by omega)]⟩
      rw [restoreS_up_own (by simp [Nm.under])]
      simp
def bst (l : List J3) (q : J3) (i : Nat) : J3 × Bool := if i = 0 then (j0, false) else (l.getD (bestI l q i) j0, true)
theorem bst_succ (l : List J3) (q : J3) (i : Nat) : bst l q (i + 1) = if (bst l q i).2 = false ∨ dist (l.getD i j0) q < dist (bst l q i).1 q then (l.getD i j0, true) else bst l q i := by
  cases i with
  | zero => simp [bst, bestI]
  | succ i =>
    have e1 : bst l q (i + 1) = (l.getD (bestI l q (i + 1)) j0, true) := if_neg (by omega)
    have e2 : bst l q (i + 1 + 1) = (l.getD (bestI l q (i + 1 + 1)) j0, true) := if_neg (by omega)
    rw [e1, e2]
    by_cases h : dist (l.getD (i + 1) j0) q < dist (l.getD (bestI l q (i + 1)) j0) q
    · rw [if_pos (Or.inr h), bestI, if_pos h]
    · rw [if_neg (by intro h'; rcases h' with h' | h'; cases h'; exact h h'), bestI, if_neg h]
theorem bst_small (l : List J3) (q : J3) (hs : ∀ x ∈ l, small x = true) {i : Nat} (hi : i ≤ l.length) : small (bst l q i).1 = true := by
  unfold bst
  split
  · decide
  · exact hs _ (getD_mem (by have := bestI_lt l q i; omega))
theorem bst_all (l : List J3) (q : J3) : bst l q l.length = near3 l q := by
  unfold bst near3
  cases l <;> simp
def nst (σ : Store) (ns : Nm) (q : J3) (b : J3 × Bool) : Store := upL σ [((ns.sub 1).sub 2, .var [.bool b.2]), ((ns.sub 1).sub 1, .var b.1.cells), ((ns.sub 0).sub 1, .var [.int .i64 0, .int .i64 0, .int .i64 0]), ((ns.sub 0).sub 0, .var q.cells)]
set_option maxHeartbeats 4000000 in
theorem nearest_pure (l : List J3) (q : J3) (hl : l.length ≤ 100000) (hs : ∀ x ∈ l, small x = true) (hq : small q = true) : Pure Tryz.prog 127 [.sl 3 (jcs l) .unk, q.av] (.tup [(near3 l q).1.av, .bool (near3 l q).2]) := by
  refine pure_val fun σ ns _ => ?_; refine acalls_of_wpc Tryz.mixed Tryz.dr127 Tryz.func127 rfl (Tryz.fit127 _ rfl) Tryz.en127 (fun hσ => ?_); simp [Tryz.ntmps127]
  refine wpc_loopN (fun i : Nat => [(10, .any), (15, .any), (16, .any), (17, .any), (18, .any), (19, .any), (20, .any), (21, .any), (22, .any),  (15, .int .i64 i)]) (fun i => nst σ ns q (bst l q i)) (fun i => l.length - i) (fun i => i ≤ l.length) 0 (by simp) ?_ ?_ ?_
  · simp
    (repeat' first | exact AVsle.nil | refine AVsle.cons (AVle.any _) ?_ | refine AVsle.cons (AVle.refl _) ?_ | refine AVsle.cons AVLe.le ?_)
  · refine StWk.own hσ _ ?_ ?_
    · simp [bst, VarWk]
    · intro x hx
      repeat rw [up_other (ns := ns) (by simp [Nm.under]) hx]
  rintro i k hi hf
  simp
  refine condK_cases (fun h => ?_) (fun h => ?_) <;> simp at h
  · have gi := getD_some h
    have mi := hs _ (getD_mem h)
    have hsucc := bst_succ l q i
    have hsm := bst_small l q hs hi
    generalize l.getD i j0 = x at gi mi hsucc
    have w : IntKind.wrap .i64 (i + 1) = i + 1 := wrap64 (by omega) (by omega)
    simp [jcs_get gi]
    refine CallK.use (take_acalls x (bst l q i).1 q (bst l q i).2 mi hsm hq (by simp [nst]) (by simp [nst]) (by simp [nst]) (by simp)) ?_
    simp [w]
    refine loopG_normal (i + 1) (by omega) (by omega) ?_ (StWk.weak (StWk.own hσ _ ?_ ?_)) rfl rfl
    · simp
      (repeat' first | exact AVsle.nil | refine AVsle.cons (AVle.any _) ?_ | refine AVsle.cons (AVle.refl _) ?_ | refine AVsle.cons AVLe.le ?_)
    · rw [hsucc]
      split <;> simp [nst, VarWk]
    · intro y hy
      split
      · repeat rw [up_other (ns := ns) (by simp [Nm.under]) hy]
        simp only [nst, upL_cons, upL_nil]
        repeat rw [up_other (ns := ns) (by simp [Nm.under]) hy]
      · simp only [nst, upL_cons, upL_nil]
        repeat rw [up_other (ns := ns) (by simp [Nm.under]) hy]
  · obtain rfl : i = l.length := by omega
    rw [bst_all]
    simp [nst]
    exact endA_eq (by simp) (by simp)
end Go.Proofs

/- Plain law: what Solve computes is the brute force's answer. -/
set_option linter.unusedVariables false
set_option linter.unusedSimpArgs false
set_option maxRecDepth 100000
namespace Go.Proofs
open Go Go.Abs
theorem upto_mem {lo x : Int} {n : Nat} : x ∈ upto lo n ↔ lo ≤ x ∧ x < lo + n := by
  unfold upto
  simp only [List.mem_map, List.mem_range]
  constructor
  · rintro ⟨t, ht, rfl⟩; omega
  · rintro ⟨h1, h2⟩; exact ⟨(x - lo).toNat, by omega, by omega⟩
theorem cnt_mem {lo hi x : Int} : x ∈ upto lo (cnt lo hi) ↔ lo ≤ x ∧ x ≤ hi := by
  rw [upto_mem]; unfold cnt; omega
theorem flatMap_congr' {α β : Type} {f g : α → List β} : ∀ {l : List α}, (∀ x ∈ l, f x = g x) → l.flatMap f = l.flatMap g
  | [], _ => rfl
  | x :: l, h => by
    rw [List.flatMap_cons, List.flatMap_cons, h x (by simp), flatMap_congr' fun y hy => h y (by simp [hy])]
theorem V2.sub_eq {p q r : V2} : p = q.sub r ↔ p.add r = q := by
  obtain ⟨p1, p2⟩ := p; obtain ⟨q1, q2⟩ := q; obtain ⟨r1, r2⟩ := r
  simp only [V2.sub, V2.add, Prod.mk.injEq]; omega
theorem pB_eq (a : Ar) (i j k k' : Int) : pB a ⟨i, j, k⟩ = pB a ⟨i, j, k'⟩ := rfl
theorem sol_eq (a : Ar) (at' : V2) (d : Dr) : sol a at' d = all a at' d := by
  unfold sol all sol1 all1
  refine flatMap_congr' fun i hi => ?_
  unfold sol2 all2
  refine flatMap_congr' fun j hj => ?_
  rw [cnt_mem] at hi hj
  unfold sol3 all3
  have key : ∀ k ∈ upto a.low.c (cnt a.low.c a.high.c), reaches a ⟨i, j, k⟩ at' d = (decide (pB a ⟨i, j, 0⟩ = at'.sub (offset d a.lens.c)) && (decide (dC ⟨i, j, k⟩ = d) && fits a ⟨i, j, k⟩)) := by
    intro k hk
    rw [cnt_mem] at hk
    have hf : fits a ⟨i, j, k⟩ = true := by
      unfold fits
      rw [Bool.and_eq_true, Bool.and_eq_true]
      exact ⟨⟨decide_eq_true hi, decide_eq_true hj⟩, decide_eq_true hk⟩
    rw [hf, Bool.and_true]
    unfold reaches
    by_cases hd : dC ⟨i, j, k⟩ = d
    · rw [show pC a ⟨i, j, k⟩ = (pB a ⟨i, j, 0⟩).add (offset (dC ⟨i, j, k⟩) a.lens.c) from rfl, hd]
      rw [Bool.eq_iff_iff]; simp [V2.sub_eq]
    · simp [hd]
  by_cases hB : pB a ⟨i, j, 0⟩ = at'.sub (offset d a.lens.c)
  · rw [if_pos hB]
    refine List.filter_congr fun q hq => ?_
    obtain ⟨k, hk, rfl⟩ := List.mem_map.1 hq
    rw [key k hk]; simp [hB]
  · rw [if_neg hB]
    refine (List.filter_eq_nil_iff.2 fun q hq => ?_).symm
    obtain ⟨k, hk, rfl⟩ := List.mem_map.1 hq
    rw [key k hk]; simp [hB]
theorem all_mem {a : Ar} {at' : V2} {d : Dr} {q : J3} : q ∈ all a at' d ↔ fits a q = true ∧ reaches a q at' d = true := by
  unfold all all1 all2 all3 fits
  simp only [List.mem_flatMap, List.mem_filter, List.mem_map, cnt_mem, Bool.and_eq_true, decide_eq_true_eq]
  constructor
  · rintro ⟨i, hi, j, hj, ⟨k, hk, rfl⟩, hr⟩
    exact ⟨⟨⟨hi, hj⟩, hk⟩, hr⟩
  · rintro ⟨⟨⟨hi, hj⟩, hk⟩, hr⟩
    exact ⟨q.a, hi, q.b, hj, ⟨q.c, hk, rfl⟩, hr⟩
end Go.Proofs
