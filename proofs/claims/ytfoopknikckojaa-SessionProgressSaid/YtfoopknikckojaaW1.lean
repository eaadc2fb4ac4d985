/- Walks of the functions of package session and of its reference. -/
import Derived.Test.YtfoopknikckojaaT
set_option linter.unusedVariables false
set_option linter.unusedSimpArgs false
namespace Go.Proofs
open Go Go.Abs
attribute [local irreducible] wpc aSeq awAny endA guardK condK CallK callT aPlan onlyL takeL aeffK takeE loopG bodyA thenA inBlockA
structure Msg where
  seq : Int
  kind : Int
  nums : List Int
structure Ses where
  last : Int
  reply : Msg
abbrev ints (l : List Int) : List (List AV) := l.map fun n => [.int .i64 n]
abbrev Msg.av (m : Msg) : AV := .agg [.int .i64 m.seq, .int .i64 m.kind, .sl 1 (ints m.nums) .unk]
abbrev Ses.av (t : Ses) : AV := .agg [.int .i64 t.last, .int .i64 t.reply.seq, .int .i64 t.reply.kind, .sl 1 (ints t.reply.nums) .unk]

theorem busy_pure (t : Ses) : Pure Try.prog 23 [t.av] (.bool (decide (0 < t.last) && (t.reply.kind == 0))) := by
  intro σ ns
  refine acalls_of_wpc Try.mixed Try.func23 rfl Try.en23 ?_
  simp [Try.ntmps23]
  refine guardK_cases (fun h => ?_) (fun h => ?_) <;> simp [h] <;> exact endA_pure (by simp)
theorem Busy_pure (t : Ses) : Pure Try.prog 22 [t.av] (.bool (decide (1 ≤ t.last) && (t.reply.kind == 0))) := by
  intro σ ns
  refine acalls_of_wpc Try.mixed Try.func22 rfl Try.en22 ?_
  simp [Try.ntmps22]
  refine guardK_cases (fun h => ?_) (fun h => ?_) <;> simp [h] <;> exact endA_pure (by simp)
theorem wrong1_pure (t : Ses) (m : Msg) (k : Int) : Pure Try.prog 32 [t.av, m.av, .cptr [.int .i64 k]] (Msg.mk m.seq k []).av := by
  intro σ ns
  refine acalls_of_wpc Try.mixed Try.func32 rfl Try.en32 ?_
  simp [Try.ntmps32]
  exact endA_le (by simp)
theorem r1_pure (t : Ses) (m : Msg) : Pure Try.prog 25 [t.av, m.av] (.bool (decide (m.kind < 1) || decide (5 < m.kind))) := by
  intro σ ns
  refine acalls_of_wpc Try.mixed Try.func25 rfl Try.en25 ?_
  simp [Try.ntmps25]
  refine guardK_cases (fun h => ?_) (fun h => ?_) <;> simp [h] <;> exact endA_pure (by simp)
theorem r2_pure (t : Ses) (m : Msg) : Pure Try.prog 27 [t.av, m.av] (.bool (decide (0 < t.last) && (m.seq == t.last))) := by
  intro σ ns
  refine acalls_of_wpc Try.mixed Try.func27 rfl Try.en27 ?_
  simp [Try.ntmps27]
  refine guardK_cases (fun h => ?_) (fun h => ?_) <;> simp [h] <;> exact endA_pure (by simp)
theorem r3_pure (t : Ses) (m : Msg) : Pure Try.prog 28 [t.av, m.av] t.reply.av := by
  intro σ ns
  refine acalls_of_wpc Try.mixed Try.func28 rfl Try.en28 ?_
  simp [Try.ntmps28]
  exact endA_le (by simp)
theorem r4_pure (t : Ses) (m : Msg) : Pure Try.prog 29 [t.av, m.av] (.bool (decide (m.seq < if t.last < 1 then 1 else t.last))) := by
  intro σ ns
  refine acalls_of_wpc Try.mixed Try.func29 rfl Try.en29 ?_
  simp [Try.ntmps29]
  exact endA_le (by simp)
theorem wrong_pure (k : Int) : Pure Try.prog 26 [.int .i64 k] (.fn (.func 32) [] [.cptr [.int .i64 k]]) := by
  intro σ ns
  refine ACalls.freeze (n := (ns.sub 0).sub 0) (pre := []) (post := []) (by simp [Nm.under]) ?_
  refine acalls_of_wpc Try.mixed Try.func26 rfl Try.en26 ?_
  simp [Try.ntmps26]
  exact endA_intro (fun n => .inr fun o ho => ⟨o, ho, .inl rfl⟩) ⟨rfl, rfl⟩
theorem rules_pure : Pure Try.prog 21 [] (.sl 2 [[.fn (.func 25) [] [], .fn (.func 32) [] [.cptr [.int .i64 4]]], [.fn (.func 27) [] [], .fn (.func 28) [] []], [.fn (.func 29) [] [], .fn (.func 32) [] [.cptr [.int .i64 330]]], [.fn (.func 30) [] [], .fn (.func 32) [] [.cptr [.int .i64 331]]]] .exact) := by
  intro σ ns
  refine acalls_of_wpc Try.mixed Try.func21 rfl Try.en21 ?_
  simp [Try.ntmps21]
  refine Pure.use (wrong_pure 4) ?_
  simp
  refine Pure.use (wrong_pure 330) ?_
  simp
  refine Pure.use (wrong_pure 331) ?_
  simp
  exact endA_pure (by simp)
abbrev bools (l : List Bool) : List (List AV) := l.map fun b => [.bool b]
theorem index_pure (l : List Bool) (x : Bool) (hl : l.length < 2 ^ 62) : Pure Try.prog 34 [.sl 1 (bools l) .unk, .bool x] (.int .i64 (match l.findIdx? (· == x) with | some i => i | none => -1)) := by
  intro σ ns
  refine acalls_of_wpc Try.mixed Try.func34 rfl Try.en34 ?_
  simp [Try.ntmps34]
  refine wpc_loop (fun i : Nat => ⟨[.sl 1 (bools l) .unk, .bool x, .any, .any, .int .i64 0, .any, .any, .int .i64 l.length, .int .i64 i, .any, .any, .any, .any, .any, .any, .any, .any, .any, .any], σ, ns, 2, []⟩)
    (fun i => l.length - i) (fun i => i ≤ l.length ∧ ∀ j, j < i → l[j]? ≠ some x) 0 (by simp) ⟨by simp, by simp⟩ AVsLe.le (.refl _) rfl ?_
  rintro i k ⟨h1, h2⟩
  simp
  refine condK_cases (fun h => ?_) (fun h => ?_)
  · simp at h
    have hb : l[i]? = some l[i] := List.getElem?_eq_getElem h
    generalize l[i] = b at hb
    have hw : IntKind.wrap .i64 ((i : Int) + 1) = ((i + 1 : Nat) : Int) := by rw [wrap64 (by omega) (by omega)]; simp
    simp [hb]
    refine condK_cases (fun hx => ?_) (fun hx => ?_)
    · simp
      have hf : l.findIdx? (· == x) = some i := by
        rw [List.findIdx?_eq_some_iff_getElem]
        refine ⟨h, ?_, fun j hj => ?_⟩
        · have := (List.getElem?_eq_some_iff.1 hb).2; rw [this]; revert hx; cases x <;> cases b <;> simp
        · have := h2 j hj; rw [List.getElem?_eq_getElem (by omega)] at this; simpa using this
      rw [hf]
      exact endA_pure (by simp)
    · simp [hw]
      refine loopG_normal (i + 1) ⟨by omega, fun j hj => ?_⟩ (by omega) AVsLe.le (fun n => .inr fun o ho => ⟨o, ho, .inl rfl⟩) rfl
      by_cases e : j = i
      · subst e; rw [hb]; intro e; injection e with e; subst e; simp at hx
      · exact h2 j (by omega)
  · simp
    have hf : l.findIdx? (· == x) = none := by
      rw [List.findIdx?_eq_none_iff]
      intro b hb
      obtain ⟨j, hj, rfl⟩ := List.getElem_of_mem hb
      have := h2 j (by simp at h; omega); rw [List.getElem?_eq_getElem hj] at this; simpa using this
    rw [hf]
    exact endA_pure (by simp)
theorem contains_pure (l : List Bool) (hl : l.length < 2 ^ 62) : Pure Try.prog 33 [.sl 1 (bools l) .unk, .bool true] (.bool (l.any id)) := by
  intro σ ns
  refine acalls_of_wpc Try.mixed Try.func33 rfl Try.en33 ?_
  simp [Try.ntmps33]
  refine Pure.use (index_pure l true hl) ?_
  simp
  have e : decide (0 ≤ (match l.findIdx? (fun x => x) with | some i => (i : Int) | none => -1)) = l.any id := by
    cases h : l.findIdx? (fun x => x) with
    | none => rw [List.findIdx?_eq_none_iff] at h; symm; simp; intro hx; have := h true hx; simp at this
    | some i =>
      have := List.findIdx?_eq_some_iff_getElem.1 h
      obtain ⟨h1, h2, _⟩ := this
      have h3 : l.any id = true := by rw [List.any_eq_true]; exact ⟨l[i], List.getElem_mem h1, h2⟩
      rw [h3]; simp
  rw [e]
  exact endA_pure (by simp)
theorem some_pure (l : List Bool) (hl : l.length < 2 ^ 62) : Pure Try.prog 31 [.sl 1 (bools l) .unk] (.bool (l.any id)) := by
  intro σ ns
  refine acalls_of_wpc Try.mixed Try.func31 rfl Try.en31 ?_
  simp [Try.ntmps31]
  refine Pure.use (contains_pure l hl) ?_
  simp
  exact endA_pure (by simp)
def rc5 (t : Ses) (m : Msg) : Bool := decide (IntKind.wrap .i64 (t.last + 1) < m.seq) || ((decide (0 < t.last) && (t.reply.kind == 0)) || decide (1073741824 ≤ t.last))
theorem r5_pure (t : Ses) (m : Msg) : Pure Try.prog 30 [t.av, m.av] (.bool (rc5 t m)) := by
  intro σ ns
  refine acalls_of_wpc Try.mixed Try.func30 rfl Try.en30 ?_
  simp [Try.ntmps30]
  refine wpc_draw (id := 1) [.take 0 [] [] [1, 5, 11, 12, 13], .take 2 [] [] [3, 4, 5, 11, 12, 13], .take 8 [] [] [9, 10, 11, 12, 13], .take 6 [] [] [7, 11, 12, 13], .take 7 [] [] [11, 12, 13], .take 1 [] [] [5, 11, 12, 13], .take 3 [] [] [4, 5, 11, 12, 13], .take 4 [] [] [5, 11, 12, 13], .take 5 [] [] [11, 12, 13], .only 9, .only 10, .only 11, .only 12, .only 13] (by kernel_rfl) ?_
  simp
  refine callT_le (busy_pure t) ?_
  simp
  refine Pure.use_le (some_pure [decide (IntKind.wrap .i64 (t.last + 1) < m.seq), decide (0 < t.last) && (t.reply.kind == 0), decide (1073741824 ≤ t.last)] (by simp)) (hl := ⟨.cons .unk .nil⟩) ?_
  simp
  refine endA_eq ?_ (by simp)
  simp [rc5]
def rc (t : Ses) (m : Msg) : Nat → Bool
  | 0 => decide (m.kind < 1) || decide (5 < m.kind)
  | 1 => decide (0 < t.last) && (m.seq == t.last)
  | 2 => decide (m.seq < if t.last < 1 then 1 else t.last)
  | _ => rc5 t m
def receive (t : Ses) (m : Msg) : Ses × Bool × Msg :=
  if rc t m 0 then (t, false, ⟨m.seq, 4, []⟩) else
  if rc t m 1 then (t, false, t.reply) else
  if rc t m 2 then (t, false, ⟨m.seq, 330, []⟩) else
  if rc t m 3 then (t, false, ⟨m.seq, 331, []⟩) else (⟨m.seq, ⟨0, 0, []⟩⟩, true, ⟨0, 0, []⟩)
abbrev recAV (r : Ses × Bool × Msg) : AV := .tup [r.1.av, .bool r.2.1, r.2.2.av]
theorem r1_pure' (t : Ses) (m : Msg) : Pure Try.prog 25 [t.av, m.av] (.bool (rc t m 0)) := r1_pure t m
theorem r2_pure' (t : Ses) (m : Msg) : Pure Try.prog 27 [t.av, m.av] (.bool (rc t m 1)) := r2_pure t m
theorem r4_pure' (t : Ses) (m : Msg) : Pure Try.prog 29 [t.av, m.av] (.bool (rc t m 2)) := r4_pure t m
theorem r5_pure' (t : Ses) (m : Msg) : Pure Try.prog 30 [t.av, m.av] (.bool (rc t m 3)) := r5_pure t m
theorem Receive_pure (t : Ses) (m : Msg) : Pure Try.prog 13 [t.av, m.av] (recAV (receive t m)) := by
  intro σ ns
  refine acalls_of_wpc Try.mixed Try.func13 rfl Try.en13 ?_
  simp [Try.ntmps13]
  refine Pure.use rules_pure ?_
  simp
  refine wpc_loop (fun i : Nat => ⟨[t.av, m.av, .ptr ((ns.sub 0).sub 0) 0, .ptr ((ns.sub 0).sub 1) 0, .ptr ((ns.sub 0).sub 2) 0, .bool false, .ptr ((ns.sub 0).sub 4) 0, .any, .any, .sl 2 [[.fn (.func 25) [] [], .fn (.func 32) [] [.cptr [.int .i64 4]]], [.fn (.func 27) [] [], .fn (.func 28) [] []], [.fn (.func 29) [] [], .fn (.func 32) [] [.cptr [.int .i64 330]]], [.fn (.func 30) [] [], .fn (.func 32) [] [.cptr [.int .i64 331]]]] .exact, .int .i64 4, .int .i64 i, .any, .any, .any, .any, .any, .any, .any, .any, .any, .any, .any, .any, .any, .any, .any, .any, .any, .any, .any], (((σ.up ((ns.sub 0).sub 0) (.var [.int .i64 t.last, .int .i64 t.reply.seq, .int .i64 t.reply.kind, .sl 1 (ints t.reply.nums) .unk])).up ((ns.sub 0).sub 1) (.var [.int .i64 m.seq, .int .i64 m.kind, .sl 1 (ints m.nums) .unk])).up ((ns.sub 0).sub 2) (.var [.int .i64 0, .int .i64 0, .int .i64 0, .sl 0 [] .nil])).up ((ns.sub 0).sub 4) (.var [.int .i64 0, .int .i64 0, .sl 0 [] .nil]), ns, 2, []⟩)
    (fun i => 4 - i) (fun i => i ≤ 4 ∧ ∀ j, j < i → rc t m j = false) 0 (by simp) ⟨by simp, by simp⟩ AVsLe.le (.refl _) rfl ?_
  rintro i k ⟨h1, h2⟩
  have hi : i = 0 ∨ i = 1 ∨ i = 2 ∨ i = 3 ∨ i = 4 := by omega
  rcases hi with hi | hi
  · subst hi
    simp
    refine Pure.use_le (r1_pure' t m) ?_
    simp
    refine condK_cases (fun h => ?_) (fun h => ?_)
    · simp
      refine wpc_draw (id := 5) [.take 1 [] [] [2, 5, 6, 7, 8], .take 2 [] [] [5, 6, 7, 8], .take 3 [] [] [5, 6, 7, 8], .take 4 [] [] [5, 6, 7, 8], .take 5 [] [] [6, 7, 8], .only 0, .only 6, .only 7, .only 8] (by kernel_rfl) ?_
      simp
      refine callT_le (wrong1_pure t m 4) ?_
      simp
      have e : receive t m = (t, false, ⟨m.seq, 4, []⟩) := by simp [receive, h]
      rw [e]
      exact endA_le (by simp)
    · simp [wrap64]
      refine loopG_normal 1 ⟨by omega, fun j hj => ?_⟩ (by omega) AVsLe.le (.of_eq (by simp [restoreS_up_out, restoreS_left_out, Nm.under_sub])) rfl
      rcases (by omega : j = 0) with rfl <;> first | exact h | exact h2 _ (by omega)
  rcases hi with hi | hi
  · subst hi
    simp
    refine Pure.use_le (r2_pure' t m) ?_
    simp
    refine condK_cases (fun h => ?_) (fun h => ?_)
    · simp
      refine wpc_draw (id := 5) [.take 1 [] [] [2, 5, 6, 7, 8], .take 2 [] [] [5, 6, 7, 8], .take 3 [] [] [5, 6, 7, 8], .take 4 [] [] [5, 6, 7, 8], .take 5 [] [] [6, 7, 8], .only 0, .only 6, .only 7, .only 8] (by kernel_rfl) ?_
      simp
      refine callT_le (r3_pure t m) ?_
      simp
      have e : receive t m = (t, false, t.reply) := by simp [receive, h, h2 0 (by omega)]
      rw [e]
      exact endA_le (by simp)
    · simp [wrap64]
      refine loopG_normal 2 ⟨by omega, fun j hj => ?_⟩ (by omega) AVsLe.le (.of_eq (by simp [restoreS_up_out, restoreS_left_out, Nm.under_sub])) rfl
      rcases (by omega : j = 0 ∨ j = 1) with rfl | rfl <;> first | exact h | exact h2 _ (by omega)
  rcases hi with hi | hi
  · subst hi
    simp
    refine Pure.use_le (r4_pure' t m) ?_
    simp
    refine condK_cases (fun h => ?_) (fun h => ?_)
    · simp
      refine wpc_draw (id := 5) [.take 1 [] [] [2, 5, 6, 7, 8], .take 2 [] [] [5, 6, 7, 8], .take 3 [] [] [5, 6, 7, 8], .take 4 [] [] [5, 6, 7, 8], .take 5 [] [] [6, 7, 8], .only 0, .only 6, .only 7, .only 8] (by kernel_rfl) ?_
      simp
      refine callT_le (wrong1_pure t m 330) ?_
      simp
      have e : receive t m = (t, false, ⟨m.seq, 330, []⟩) := by simp [receive, h, h2 0 (by omega), h2 1 (by omega)]
      rw [e]
      exact endA_le (by simp)
    · simp [wrap64]
      refine loopG_normal 3 ⟨by omega, fun j hj => ?_⟩ (by omega) AVsLe.le (.of_eq (by simp [restoreS_up_out, restoreS_left_out, Nm.under_sub])) rfl
      rcases (by omega : j = 0 ∨ j = 1 ∨ j = 2) with rfl | rfl | rfl <;> first | exact h | exact h2 _ (by omega)
  rcases hi with hi | hi
  · subst hi
    simp
    refine Pure.use_le (r5_pure' t m) ?_
    simp
    refine condK_cases (fun h => ?_) (fun h => ?_)
    · simp
      refine wpc_draw (id := 5) [.take 1 [] [] [2, 5, 6, 7, 8], .take 2 [] [] [5, 6, 7, 8], .take 3 [] [] [5, 6, 7, 8], .take 4 [] [] [5, 6, 7, 8], .take 5 [] [] [6, 7, 8], .only 0, .only 6, .only 7, .only 8] (by kernel_rfl) ?_
      simp
      refine callT_le (wrong1_pure t m 331) ?_
      simp
      have e : receive t m = (t, false, ⟨m.seq, 331, []⟩) := by simp [receive, h, h2 0 (by omega), h2 1 (by omega), h2 2 (by omega)]
      rw [e]
      exact endA_le (by simp)
    · simp [wrap64]
      refine loopG_normal 4 ⟨by omega, fun j hj => ?_⟩ (by omega) AVsLe.le (.of_eq (by simp [restoreS_up_out, restoreS_left_out, Nm.under_sub])) rfl
      rcases (by omega : j = 0 ∨ j = 1 ∨ j = 2 ∨ j = 3) with rfl | rfl | rfl | rfl <;> first | exact h | exact h2 _ (by omega)
  subst hi
  simp
  have e : receive t m = (⟨m.seq, ⟨0, 0, []⟩⟩, true, ⟨0, 0, []⟩) := by simp [receive, h2 0, h2 1, h2 2, h2 3]
  rw [e]
  exact endA_le (by simp)
theorem Clone_pure (l : List Int) (hl : l.length ≤ 1000) : Pure Try.prog 24 [.sl 1 (ints l) .unk] (.sl 1 (ints l) .unk) := by
  intro σ ns
  refine acalls_of_wpc Try.mixed Try.func24 rfl Try.en24 ?_
  cases l with
  | nil =>
    simp [Try.ntmps24]
    refine condK_any ?_ ?_
    · simp
      exact endA_le' .unk0 (by simp)
    · simp
      exact endA_le' .unk0 (by simp)
  | cons x r =>
    have hl2 : (r.length + 1) * 8 ≤ 140737488355328 := by simp at hl; omega
    simp [Try.ntmps24, hl2]
    exact endA_le' .unk (by simp)
def valid (t : Ses) : Bool :=
  if t.last < 0 ∨ 1073741824 < t.last then false else
  if t.reply.kind = 0 then (t.reply.seq == 0 && (t.reply.nums.length : Int) == 0) else
  if t.reply.kind = 9 then ((decide (0 < t.last) && (t.reply.seq == t.last)) && decide ((t.reply.nums.length : Int) ≤ 20)) else false
theorem Valid_pure (t : Ses) : Pure Try.prog 11 [t.av] (.bool (valid t)) := by
  intro σ ns
  refine acalls_of_wpc Try.mixed Try.func11 rfl Try.en11 ?_
  simp [Try.ntmps11]
  repeat' first
    | (refine guardK_cases (fun h => ?_) (fun h => ?_) <;> simp [h])
    | (refine condK_cases (fun h => ?_) (fun h => ?_) <;> simp [h])
  all_goals (refine endA_eq ?_ (by simp); first | (simp_all [valid]; done) | (simp_all [valid]; omega) | (simp_all [valid]; intros; omega))
theorem Right_pure (t : Ses) : Pure Try.prog 12 [t.av] (.bool (valid t)) := by
  intro σ ns
  refine acalls_of_wpc Try.mixed Try.func12 rfl Try.en12 ?_
  simp [Try.ntmps12]
  repeat' first
    | (refine guardK_cases (fun h => ?_) (fun h => ?_) <;> simp [h])
    | (refine condK_cases (fun h => ?_) (fun h => ?_) <;> simp [h])
  all_goals (refine endA_eq ?_ (by simp); first | (simp_all [valid]; done) | (simp_all [valid]; omega) | (simp_all [valid]; intros; omega) | (unfold valid; repeat' split <;> simp_all <;> omega))
structure Wd where
  seq : Int
  kind : Int
  nums : List Int
abbrev Wd.cells (w : Wd) : List AV := [.int .i64 w.seq, .int .u8 w.kind, .sl 1 (ints w.nums) .unk]
abbrev msgOf (w : Wd) : Msg := ⟨w.seq, IntKind.wrap .i64 (IntKind.wrap .i64 w.kind - 1), w.nums⟩
theorem msg_pure (w : Wd) : Pure Try.prog 14 [.agg w.cells] (msgOf w).av := by
  intro σ ns
  refine acalls_of_wpc Try.mixed Try.func14 rfl Try.en14 ?_
  simp [Try.ntmps14]
  exact endA_le (by simp)
end Go.Proofs
