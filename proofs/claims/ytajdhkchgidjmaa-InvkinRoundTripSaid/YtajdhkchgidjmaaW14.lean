/- Walks: the nearest configuration. -/
import Derived.Test.YtajdhkchgidjmaaW13
set_option linter.unusedVariables false
set_option linter.unusedSimpArgs false
set_option maxRecDepth 100000
namespace Go.Proofs
open Go Go.Abs
attribute [local irreducible] wpc aSeq awAny endA guardK condK CallK callT aPlan onlyL takeL aeffK takeE loopG bodyA thenA inBlockA planK roundG assignG bodyI endI YieldK unrollG
abbrev j0 : J3 := ⟨0, 0, 0⟩
/-- The first nearest among the first n. -/
def bestI (l : List J3) (q : J3) : Nat → Nat
  | 0 => 0
  | n + 1 => if dist (l.getD n j0) q < dist (l.getD (bestI l q n) j0) q then n else bestI l q n
theorem bestI_lt (l : List J3) (q : J3) : ∀ n, bestI l q n < n ∨ (bestI l q n = 0)
  | 0 => .inr rfl
  | n + 1 => by
    unfold bestI; split
    · exact .inl (Nat.lt_succ_self _)
    · rcases bestI_lt l q n with h | h
      · exact .inl (Nat.lt_succ_of_lt h)
      · exact .inr h
def near3 (l : List J3) (q : J3) : J3 × Bool := if l = [] then (j0, false) else (l.getD (bestI l q l.length) j0, true)
theorem getD_some {l : List J3} {i : Nat} (h : i < l.length) : l[i]? = some (l.getD i j0) := by
  rw [List.getElem?_eq_getElem h]; simp [List.getD, h]
theorem getD_mem {l : List J3} {i : Nat} (h : i < l.length) : l.getD i j0 ∈ l := by
  simp [List.getD, h]
theorem dist_bound {p q : J3} (hp : small p = true) (hq : small q = true) : 0 ≤ dist p q ∧ dist p q ≤ 6000 := by
  have h1 := small_spec hp
  have h2 := small_spec hq
  unfold dist mx
  split <;> split <;> split <;> omega
set_option maxHeartbeats 4000000 in
theorem near_pure (l : List J3) (q : J3) (hl : l.length ≤ 100000) (hs : ∀ x ∈ l, small x = true) (hq : small q = true) : Pure Try.prog 20 [.sl 3 (jcs l) .unk, q.av] (.tup [(near3 l q).1.av, .bool (near3 l q).2]) := by
  intro σ ns; refine acalls_of_wpc Try.mixed Try.dr20 Try.func20 rfl (Try.fit20 _ rfl) Try.en20 (fun hσ => ?_); simp [Try.ntmps20]
  refine condK_cases (fun h => ?_) (fun h => ?_) <;> simp at h
  · subst h
    simp
    exact endA_eq (by simp [near3]) (by simp)
  have hpos : 0 < l.length := by cases l with | nil => exact (h rfl).elim | cons x l => simp
  simp
  refine wpc_loop0 (fun i : Nat => [(6, .any), (7, .any), (8, .any), (9, .any), (14, .any), (15, .any), (16, .any), (17, .any), (18, .any), (19, .any), (20, .any), (21, .any), (22, .any), (23, .any), (24, .any), (25, .any), (26, .any), (27, .any), (28, .any), (29, .any), (30, .any), (31, .any), (32, .any), (33, .any), (34, .any), (35, .any),  (6, .int .i64 (bestI l q i)), (7, .int .i64 i)]) (fun i => l.length - i) (fun i => 1 ≤ i ∧ i ≤ l.length) 1 (by omega) ?_ ?_
  · simp [bestI]
    (repeat' first | exact AVsle.nil | refine AVsle.cons (AVle.any _) ?_ | refine AVsle.cons (AVle.refl _) ?_ | refine AVsle.cons AVLe.le ?_)
  rintro i k ⟨h1, hi⟩
  have hb : bestI l q i < l.length := by have := bestI_lt l q i; omega
  have gb := getD_some hb
  have mb := hs _ (getD_mem hb)
  simp
  refine condK_cases (fun h2 => ?_) (fun h2 => ?_) <;> simp at h2
  · have gi := getD_some h2
    have mi := hs _ (getD_mem h2)
    have hsucc : bestI l q (i + 1) = if dist (l.getD i j0) q < dist (l.getD (bestI l q i) j0) q then i else bestI l q i := rfl
    generalize l.getD i j0 = x at gi mi hsucc
    generalize l.getD (bestI l q i) j0 = y at gb mb hsucc
    have w : IntKind.wrap .i64 (i + 1) = i + 1 := wrap64 (by omega) (by omega)
    simp [jcs_get gi]
    refine Pure.use_le (far_pure x q mi hq) ?_
    simp [jcs_get gb]
    refine Pure.use_le (far_pure y q mb hq) ?_
    simp
    refine condK_cases (fun h3 => ?_) (fun h3 => ?_) <;> simp at h3
    · rw [if_pos h3] at hsucc
      simp [w]
      refine loopG_normal (i + 1) (by omega) (by omega) ?_ ?_ rfl rfl
      · simp [hsucc]
        (repeat' first | exact AVsle.nil | refine AVsle.cons (AVle.any _) ?_ | refine AVsle.cons (AVle.refl _) ?_ | refine AVsle.cons AVLe.le ?_)
      · exact StWk.weak (.refl _)
    · rw [if_neg (by omega)] at hsucc
      simp [w]
      refine loopG_normal (i + 1) (by omega) (by omega) ?_ ?_ rfl rfl
      · simp [hsucc]
        (repeat' first | exact AVsle.nil | refine AVsle.cons (AVle.any _) ?_ | refine AVsle.cons (AVle.refl _) ?_ | refine AVsle.cons AVLe.le ?_)
      · exact StWk.weak (.refl _)
  · obtain rfl : i = l.length := by omega
    simp [jcs_get gb]
    exact endA_eq (by simp [near3, h]) (by simp)
set_option maxHeartbeats 4000000 in
theorem take_acalls (x b q : J3) (t : Bool) (hx : small x = true) (hb : small b = true) (hq : small q = true) {σ : Store} {ns n1 n2 n3 : Nm} (h1 : σ n1 = some (.var [.bool t])) (h2 : σ n2 = some (.var q.cells)) (h3 : σ n3 = some (.var b.cells)) (h13 : n1 ≠ n3) :
    ACalls Try.prog 42 [x.av, .ptr n1 0, .ptr n2 0, .ptr n3 0] σ ns fun e σ' => e = .ret (.tup []) ∧ σ' = if t = false ∨ dist x q < dist b q then (σ.up n3 (.var x.cells)).up n1 (.var [.bool true]) else σ := by
  refine acalls_of_wpc Try.mixed Try.dr42 Try.func42 rfl (Try.fit42 _ rfl) Try.en42 (fun hσ => ?_); simp [Try.ntmps42]
  have hu : ∀ {n : Nm} {o : AObj}, σ n = some o → n.under ns = false := fun {n o} h => by cases hh : n.under ns with | false => rfl | true => rw [hσ n hh] at h; cases h
  have u1 : ¬ n1 = (ns.sub 0).sub 0 := fun e => by have := hu h1; rw [e] at this; simp [Nm.under] at this
  have u2 : ¬ n2 = (ns.sub 0).sub 0 := fun e => by have := hu h2; rw [e] at this; simp [Nm.under] at this
  have u3 : ¬ n3 = (ns.sub 0).sub 0 := fun e => by have := hu h3; rw [e] at this; simp [Nm.under] at this
  have v1 : ¬ (ns.sub 0).sub 0 = n1 := fun e => u1 e.symm
  have v3 : ¬ (ns.sub 0).sub 0 = n3 := fun e => u3 e.symm
  have w13 : ¬ n1 = n3 := h13
  have w31 : ¬ n3 = n1 := fun e => h13 e.symm
  have f1 := hu h1
  have f3 := hu h3
  simp [u1, u2, u3, h1, h2, h3]
  refine guardK_cases (fun hg => ?_) (fun hg => ?_) <;> simp [hg, u1, u2, u3, h1, h2, h3]
  · simp at hg
    subst hg
    simp [u1, u2, u3, v1, v3, w13, w31, h1, h2, h3]
    refine endA_intro (StWeak.of_eq ?_) ⟨rfl, rfl⟩
    rw [restoreS_up_out f1, restoreS_up_out f3, restoreS_up_own (by simp [Nm.under])]
    simp
  · simp at hg
    subst hg
    refine callT_le (distance_pure x q hx hq) ?_
    simp [u1, u2, u3, h1, h2, h3]
    refine Pure.use_le (distance_pure b q hb hq) ?_
    simp [u1, u2, u3, h1, h2, h3]
    refine condK_cases (fun hc => ?_) (fun hc => ?_) <;> simp at hc
    · simp [u1, u2, u3, v1, v3, w13, w31, h1, h2, h3]
      refine endA_intro (StWeak.of_eq ?_) ⟨rfl, by rw [if_pos hc]⟩
      rw [restoreS_up_out f1, restoreS_up_out f3, restoreS_up_own (by simp [Nm.under])]
      simp
    · simp
      refine endA_intro (StWeak.of_eq ?_) ⟨rfl, by rw [if_neg (by omega)]⟩
      rw [restoreS_up_own (by simp [Nm.under])]
      simp
def bst (l : List J3) (q : J3) (i : Nat) : J3 × Bool := if i = 0 then (j0, false) else (l.getD (bestI l q i) j0, true)
theorem bst_succ (l : List J3) (q : J3) (i : Nat) : bst l q (i + 1) = if (bst l q i).2 = false ∨ dist (l.getD i j0) q < dist (bst l q i).1 q then (l.getD i j0, true) else bst l q i := by
  cases i with
  | zero => simp [bst, bestI]
  | succ i =>
    have e1 : bst l q (i + 1) = (l.getD (bestI l q (i + 1)) j0, true) := if_neg (by omega)
    have e2 : bst l q (i + 1 + 1) = (l.getD (bestI l q (i + 1 + 1)) j0, true) := if_neg (by omega)
    rw [e1, e2]
    by_cases h : dist (l.getD (i + 1) j0) q < dist (l.getD (bestI l q (i + 1)) j0) q
    · rw [if_pos (Or.inr h), bestI, if_pos h]
    · rw [if_neg (by intro h'; rcases h' with h' | h'; cases h'; exact h h'), bestI, if_neg h]
theorem bst_small (l : List J3) (q : J3) (hs : ∀ x ∈ l, small x = true) {i : Nat} (hi : i ≤ l.length) : small (bst l q i).1 = true := by
  unfold bst
  split
  · decide
  · exact hs _ (getD_mem (by have := bestI_lt l q i; omega))
theorem bst_all (l : List J3) (q : J3) : bst l q l.length = near3 l q := by
  unfold bst near3
  cases l <;> simp
def nst (σ : Store) (ns : Nm) (q : J3) (b : J3 × Bool) : Store := upL σ [((ns.sub 1).sub 2, .var [.bool b.2]), ((ns.sub 1).sub 1, .var b.1.cells), ((ns.sub 0).sub 1, .var [.int .i64 0, .int .i64 0, .int .i64 0]), ((ns.sub 0).sub 0, .var q.cells)]
set_option maxHeartbeats 4000000 in
theorem nearest_pure (l : List J3) (q : J3) (hl : l.length ≤ 100000) (hs : ∀ x ∈ l, small x = true) (hq : small q = true) : Pure Try.prog 19 [.sl 3 (jcs l) .unk, q.av] (.tup [(near3 l q).1.av, .bool (near3 l q).2]) := by
  intro σ ns; refine acalls_of_wpc Try.mixed Try.dr19 Try.func19 rfl (Try.fit19 _ rfl) Try.en19 (fun hσ => ?_); simp [Try.ntmps19]
  refine wpc_loopN (fun i : Nat => [(10, .any), (15, .any), (16, .any), (17, .any), (18, .any), (19, .any), (20, .any), (21, .any), (22, .any),  (15, .int .i64 i)]) (fun i => nst σ ns q (bst l q i)) (fun i => l.length - i) (fun i => i ≤ l.length) 0 (by simp) ?_ ?_ ?_
  · simp
    (repeat' first | exact AVsle.nil | refine AVsle.cons (AVle.any _) ?_ | refine AVsle.cons (AVle.refl _) ?_ | refine AVsle.cons AVLe.le ?_)
  · refine StWk.own hσ _ ?_ ?_
    · simp [bst, VarWk]
    · intro x hx
      repeat rw [up_other (ns := ns) (by simp [Nm.under]) hx]
  rintro i k hi hf
  simp
  refine condK_cases (fun h => ?_) (fun h => ?_) <;> simp at h
  · have gi := getD_some h
    have mi := hs _ (getD_mem h)
    have hsucc := bst_succ l q i
    have hsm := bst_small l q hs hi
    generalize l.getD i j0 = x at gi mi hsucc
    have w : IntKind.wrap .i64 (i + 1) = i + 1 := wrap64 (by omega) (by omega)
    simp [jcs_get gi]
    refine CallK.use (take_acalls x (bst l q i).1 q (bst l q i).2 mi hsm hq (by simp [nst]) (by simp [nst]) (by simp [nst]) (by simp)) ?_
    simp [w]
    refine loopG_normal (i + 1) (by omega) (by omega) ?_ (StWk.weak (StWk.own hσ _ ?_ ?_)) rfl rfl
    · simp
      (repeat' first | exact AVsle.nil | refine AVsle.cons (AVle.any _) ?_ | refine AVsle.cons (AVle.refl _) ?_ | refine AVsle.cons AVLe.le ?_)
    · rw [hsucc]
      split <;> simp [nst, VarWk]
    · intro y hy
      split
      · repeat rw [up_other (ns := ns) (by simp [Nm.under]) hy]
        simp only [nst, upL_cons, upL_nil]
        repeat rw [up_other (ns := ns) (by simp [Nm.under]) hy]
      · simp only [nst, upL_cons, upL_nil]
        repeat rw [up_other (ns := ns) (by simp [Nm.under]) hy]
  · obtain rfl : i = l.length := by omega
    rw [bst_all]
    simp [nst]
    exact endA_eq (by simp) (by simp)
end Go.Proofs
