/- Expansion: methods that append steps: how they end, and how they are used; names of parts and places. -/
import Derived.Test.YtnanajdckbfamaaGreatDoorX2
set_option linter.unusedVariables false
set_option linter.unusedSimpArgs false
set_option maxRecDepth 100000
namespace Go.Proofs
open Go Go.Abs
attribute [local irreducible] wpc aSeq awAny endA guardK condK CallK callT aPlan onlyL takeL aeffK takeE loopG bodyA thenA inBlockA planK roundG assignG bodyI endI YieldK unrollG endP
/-- The index of the first that meets p. -/
def firstIx {α : Type} (p : α → Bool) : List α → Nat → Int
  | [], _ => -1
  | a :: l, i => if p a then i else firstIx p l (i + 1)
theorem firstIx_none {α : Type} {p : α → Bool} : ∀ {l : List α} {k : Nat}, (∀ a ∈ l, p a = false) → firstIx p l k = -1
  | [], _, _ => rfl
  | a :: l, k, h => by
    rw [firstIx, if_neg (by rw [h a (by simp)]; simp)]
    exact firstIx_none fun b hb => h b (by simp [hb])
theorem firstIx_found {α : Type} {p : α → Bool} : ∀ {l : List α} {k i : Nat} {a : α}, l[i]? = some a → p a = true → (∀ j, j < i → ∀ b, l[j]? = some b → p b = false) → firstIx p l k = ((k + i : Nat) : Int)
  | [], _, _, _, h, _, _ => by simp at h
  | b :: l, k, 0, a, h, hp, _ => by simp at h; subst h; rw [firstIx, if_pos hp]; simp
  | b :: l, k, i + 1, a, h, hp, hm => by
    rw [firstIx, if_neg (by rw [hm 0 (by omega) b (by simp)]; simp), firstIx_found (l := l) (k := k + 1) (i := i) (a := a) (by simpa using h) hp (fun j hj c hc => hm (j + 1) (by omega) c (by simpa using hc))]
    omega
theorem firstIx_spec {α : Type} {p : α → Bool} : ∀ {l : List α} {k : Nat}, firstIx p l k = -1 ∨ ∃ i a, l[i]? = some a ∧ p a = true ∧ firstIx p l k = ((k + i : Nat) : Int)
  | [], _ => .inl rfl
  | a :: l, k => by
    rw [firstIx]
    by_cases h : p a = true
    · rw [if_pos h]; exact .inr ⟨0, a, rfl, h, by simp⟩
    · rw [if_neg h]
      rcases firstIx_spec (l := l) (k := k + 1) with e | ⟨i, b, h1, h2, h3⟩
      · exact .inl e
      · exact .inr ⟨i + 1, b, by simpa using h1, h2, by rw [h3]; omega⟩
def partIx (c : Ce) (s : ByteArray) : Int := firstIx (fun p : Pt => decide (p.name = s)) c.parts 0
def placeIx (c : Ce) (s : ByteArray) : Int := firstIx (fun p : Pc => decide (p.name = s)) c.places 0
theorem ptat_get {l : List Pt} {i : Nat} (h : i < l.length) : l[i]? = some (ptat l i) := by simp [ptat, h]
theorem plat_get {l : List Pc} {i : Nat} (h : i < l.length) : l[i]? = some (plat l i) := by simp [plat, h]
theorem partIx_found {c : Ce} {s : ByteArray} {i : Nat} (hi : i < c.parts.length) (h : (ptat c.parts i).name = s) (hm : ∀ j < i, (ptat c.parts j).name ≠ s) : partIx c s = i := by
  have := firstIx_found (p := fun p : Pt => decide (p.name = s)) (k := 0) (ptat_get hi) (by simpa using h) (fun j hj b hb => by
    rw [ptat_get (by omega)] at hb; injection hb with hb; subst hb; simpa using hm j hj)
  simpa [partIx] using this
theorem placeIx_found {c : Ce} {s : ByteArray} {i : Nat} (hi : i < c.places.length) (h : (plat c.places i).name = s) (hm : ∀ j < i, (plat c.places j).name ≠ s) : placeIx c s = i := by
  have := firstIx_found (p := fun p : Pc => decide (p.name = s)) (k := 0) (plat_get hi) (by simpa using h) (fun j hj b hb => by
    rw [plat_get (by omega)] at hb; injection hb with hb; subst hb; simpa using hm j hj)
  simpa [placeIx] using this
theorem partIx_none {c : Ce} {s : ByteArray} (hm : ∀ j < c.parts.length, (ptat c.parts j).name ≠ s) : partIx c s = -1 :=
  firstIx_none fun a ha => by
    obtain ⟨j, hj, e⟩ := List.getElem_of_mem ha
    have := hm j hj
    simp [ptat, hj, e] at this
    simpa using this
theorem placeIx_none {c : Ce} {s : ByteArray} (hm : ∀ j < c.places.length, (plat c.places j).name ≠ s) : placeIx c s = -1 :=
  firstIx_none fun a ha => by
    obtain ⟨j, hj, e⟩ := List.getElem_of_mem ha
    have := hm j hj
    simp [plat, hj, e] at this
    simpa using this
theorem part13_pure (c : Ce) (s : ByteArray) (hl : c.parts.length ≤ 1000000) : Pure Tryz.prog 54 [c.av, .str s] (.int .i64 (partIx c s)) := by
  refine pure_val fun σ ns _ => ?_; refine acalls_of_wpc Tryz.mixed Tryz.dr54 Tryz.func54 rfl (Tryz.fit54 _ rfl) Tryz.en54 (fun hσ => ?_); simp [Tryz.ntmps54]
  refine wpc_loop0 (fun i : Nat => [(4, .any), (6, .any), (7, .any), (8, .any), (9, .any), (10, .any), (11, .any), (12, .any), (13, .any), (14, .any), (15, .any), (16, .any), (17, .any), (18, .any), (19, .any), (20, .any), (21, .any), (5, .int .i64 i)]) (fun i => c.parts.length - i) (fun i => i ≤ c.parts.length ∧ ∀ j < i, (ptat c.parts j).name ≠ s) 0 (by simp) ?_ ?_
  · simp
    (repeat' first | exact AVsle.nil | refine AVsle.cons (AVle.any _) ?_ | refine AVsle.cons (AVle.refl _) ?_ | refine AVsle.cons AVLe.le ?_)
  rintro i r ⟨hi, hm⟩
  simp
  refine condK_cases (fun h => ?_) (fun h => ?_) <;> simp [h] <;> (try simp at h)
  · have hg := ptcs_get h
    have w' : IntKind.wrap .i64 ((i : Int) + 1) = ((i + 1 : Nat) : Int) := wrap64 (by omega) (by omega)
    simp [hg, ba_beq]
    refine condK_cases (fun g => ?_) (fun g => ?_) <;> simp [g] <;> (try simp at g)
    · exact endA_eq (by rw [partIx_found h g hm]) (by simp)
    · simp [w']
      (refine loopG_normal (i + 1) (⟨by omega, next_all hm g⟩) (by omega) ?_ ?_ rfl rfl; rotate_left; exact .of_eq (by simp); simp; (repeat' first | exact AVsle.nil | refine AVsle.cons (AVle.any _) ?_ | refine AVsle.cons (AVle.refl _) ?_ | refine AVsle.cons AVLe.le ?_))
  · obtain rfl : i = c.parts.length := by omega
    exact endA_eq (by rw [partIx_none hm]) (by simp)
theorem place13_pure (c : Ce) (s : ByteArray) (hl : c.places.length ≤ 1000000) : Pure Tryz.prog 55 [c.av, .str s] (.int .i64 (placeIx c s)) := by
  refine pure_val fun σ ns _ => ?_; refine acalls_of_wpc Tryz.mixed Tryz.dr55 Tryz.func55 rfl (Tryz.fit55 _ rfl) Tryz.en55 (fun hσ => ?_); simp [Tryz.ntmps55]
  refine wpc_loop0 (fun i : Nat => [(4, .any), (6, .any), (7, .any), (8, .any), (9, .any), (10, .any), (11, .any), (12, .any), (13, .any), (14, .any), (15, .any), (16, .any), (17, .any), (18, .any), (19, .any), (20, .any), (21, .any), (5, .int .i64 i)]) (fun i => c.places.length - i) (fun i => i ≤ c.places.length ∧ ∀ j < i, (plat c.places j).name ≠ s) 0 (by simp) ?_ ?_
  · simp
    (repeat' first | exact AVsle.nil | refine AVsle.cons (AVle.any _) ?_ | refine AVsle.cons (AVle.refl _) ?_ | refine AVsle.cons AVLe.le ?_)
  rintro i r ⟨hi, hm⟩
  simp
  refine condK_cases (fun h => ?_) (fun h => ?_) <;> simp [h] <;> (try simp at h)
  · have hg := plcs_get h
    have w' : IntKind.wrap .i64 ((i : Int) + 1) = ((i + 1 : Nat) : Int) := wrap64 (by omega) (by omega)
    simp [hg, ba_beq]
    refine condK_cases (fun g => ?_) (fun g => ?_) <;> simp [g] <;> (try simp at g)
    · exact endA_eq (by rw [placeIx_found h g hm]) (by simp)
    · simp [w']
      (refine loopG_normal (i + 1) (⟨by omega, next_all hm g⟩) (by omega) ?_ ?_ rfl rfl; rotate_left; exact .of_eq (by simp); simp; (repeat' first | exact AVsle.nil | refine AVsle.cons (AVle.any _) ?_ | refine AVsle.cons (AVle.refl _) ?_ | refine AVsle.cons AVLe.le ?_))
  · obtain rfl : i = c.places.length := by omega
    exact endA_eq (by rw [placeIx_none hm]) (by simp)
theorem part1_calls (p : Pt) (s : ByteArray) (σ : Store) (ns m : Nm) (hm : σ m = some (.var [.str s])) : ACalls Tryz.prog 72 [.agg p.cells, .ptr m 0] σ ns fun e σ' => e = .ret (.bool (decide (p.name = s))) ∧ σ' = σ := by
  refine acalls_val fun ns _ hns => ?_; refine acalls_of_wpc Tryz.mixed Tryz.dr72 Tryz.func72 rfl (Tryz.fit72 _ rfl) Tryz.en72 (fun hσ => ?_); simp [Tryz.ntmps72]
  have hnn := ne_own hσ hm
  have hn2 := own_ne hσ hm
  simp [hm, hnn, hn2, ba_beq]
  exact endA_eq (by simp) (by simp)
theorem place1_calls (p : Pc) (s : ByteArray) (σ : Store) (ns m : Nm) (hm : σ m = some (.var [.str s])) : ACalls Tryz.prog 74 [.agg p.cells, .ptr m 0] σ ns fun e σ' => e = .ret (.bool (decide (p.name = s))) ∧ σ' = σ := by
  refine acalls_val fun ns _ hns => ?_; refine acalls_of_wpc Tryz.mixed Tryz.dr74 Tryz.func74 rfl (Tryz.fit74 _ rfl) Tryz.en74 (fun hσ => ?_); simp [Tryz.ntmps74]
  have hnn := ne_own hσ hm
  have hn2 := own_ne hσ hm
  simp [hm, hnn, hn2, ba_beq]
  exact endA_eq (by simp) (by simp)
theorem partIF_calls (c : Ce) (s : ByteArray) (hl : c.parts.length ≤ 1000000) (σ : Store) (ns m : Nm) (hm : σ m = some (.var [.str s])) :
    ACalls Tryz.prog 71 [.sl 3 (ptcs c.parts) .unk, .fn (.func 72) [] [.ptr m 0]] σ ns fun e σ' => e = .ret (.int .i64 (partIx c s)) ∧ σ' = σ := by
  refine acalls_val fun ns _ hns => ?_; refine acalls_of_wpc Tryz.mixed Tryz.dr71 Tryz.func71 rfl (Tryz.fit71 _ rfl) Tryz.en71 (fun hσ => ?_); simp [Tryz.ntmps71]
  refine wpc_loop0 (fun i : Nat => [(4, .any), (5, .any), (8, .any), (9, .any), (10, .any), (11, .any), (12, .any), (13, .any), (14, .any), (15, .any), (16, .any), (17, .any), (18, .any),  (8, .int .i64 i)]) (fun i => c.parts.length - i) (fun i => i ≤ c.parts.length ∧ ∀ j < i, (ptat c.parts j).name ≠ s) 0 (by simp) ?_ ?_
  · simp
    (repeat' first | exact AVsle.nil | refine AVsle.cons (AVle.any _) ?_ | refine AVsle.cons (AVle.refl _) ?_ | refine AVsle.cons AVLe.le ?_)
  rintro i r ⟨hi, hmm⟩
  simp
  refine condK_cases (fun h => ?_) (fun h => ?_) <;> simp [h] <;> (try simp at h)
  · have hg := ptcs_get h
    have w' : IntKind.wrap .i64 ((i : Int) + 1) = ((i + 1 : Nat) : Int) := wrap64 (by omega) (by omega)
    simp [hg]
    refine CallK.use (part1_calls (ptat c.parts i) s _ _ m hm) ?_
    simp
    refine condK_cases (fun g => ?_) (fun g => ?_) <;> simp [g] <;> (try simp at g)
    · exact endA_eq (by rw [partIx_found h g hmm]) (by simp)
    · simp [w']
      (refine loopG_normal (i + 1) (⟨by omega, next_all hmm g⟩) (by omega) ?_ ?_ rfl rfl; rotate_left; exact .of_eq (by simp); simp; (repeat' first | exact AVsle.nil | refine AVsle.cons (AVle.any _) ?_ | refine AVsle.cons (AVle.refl _) ?_ | refine AVsle.cons AVLe.le ?_))
  · obtain rfl : i = c.parts.length := by omega
    exact endA_eq (by rw [partIx_none hmm]) (by simp)
theorem placeIF_calls (c : Ce) (s : ByteArray) (hl : c.places.length ≤ 1000000) (σ : Store) (ns m : Nm) (hm : σ m = some (.var [.str s])) :
    ACalls Tryz.prog 73 [.sl 6 (plcs c.places) .unk, .fn (.func 74) [] [.ptr m 0]] σ ns fun e σ' => e = .ret (.int .i64 (placeIx c s)) ∧ σ' = σ := by
  refine acalls_val fun ns _ hns => ?_; refine acalls_of_wpc Tryz.mixed Tryz.dr73 Tryz.func73 rfl (Tryz.fit73 _ rfl) Tryz.en73 (fun hσ => ?_); simp [Tryz.ntmps73]
  refine wpc_loop0 (fun i : Nat => [(4, .any), (5, .any), (8, .any), (9, .any), (10, .any), (11, .any), (12, .any), (13, .any), (14, .any), (15, .any), (16, .any), (17, .any), (18, .any),  (8, .int .i64 i)]) (fun i => c.places.length - i) (fun i => i ≤ c.places.length ∧ ∀ j < i, (plat c.places j).name ≠ s) 0 (by simp) ?_ ?_
  · simp
    (repeat' first | exact AVsle.nil | refine AVsle.cons (AVle.any _) ?_ | refine AVsle.cons (AVle.refl _) ?_ | refine AVsle.cons AVLe.le ?_)
  rintro i r ⟨hi, hmm⟩
  simp
  refine condK_cases (fun h => ?_) (fun h => ?_) <;> simp [h] <;> (try simp at h)
  · have hg := plcs_get h
    have w' : IntKind.wrap .i64 ((i : Int) + 1) = ((i + 1 : Nat) : Int) := wrap64 (by omega) (by omega)
    simp [hg]
    refine CallK.use (place1_calls (plat c.places i) s _ _ m hm) ?_
    simp
    refine condK_cases (fun g => ?_) (fun g => ?_) <;> simp [g] <;> (try simp at g)
    · exact endA_eq (by rw [placeIx_found h g hmm]) (by simp)
    · simp [w']
      (refine loopG_normal (i + 1) (⟨by omega, next_all hmm g⟩) (by omega) ?_ ?_ rfl rfl; rotate_left; exact .of_eq (by simp); simp; (repeat' first | exact AVsle.nil | refine AVsle.cons (AVle.any _) ?_ | refine AVsle.cons (AVle.refl _) ?_ | refine AVsle.cons AVLe.le ?_))
  · obtain rfl : i = c.places.length := by omega
    exact endA_eq (by rw [placeIx_none hmm]) (by simp)
theorem part_calls (w : Ws) (c : Ce) (o : AV) (s : ByteArray) (hl : c.parts.length ≤ 1000000) (σ : Store) (ns n : Nm) (hn : σ n = some (.var (wkC w c o))) : ACalls Tryz.prog 48 [.ptr n 0, .str s] σ ns fun e σ' => e = .ret (.int .i64 (partIx c s)) ∧ σ' = σ := by
  refine acalls_val fun ns _ hns => ?_; refine acalls_of_wpc Tryz.mixed Tryz.dr48 Tryz.func48 rfl (Tryz.fit48 _ rfl) Tryz.en48 (fun hσ => ?_); simp [Tryz.ntmps48]
  have hnn := ne_own hσ hn
  have hn2 := own_ne hσ hn
  simp [hn, hnn, hn2]
  refine CallK.use (partIF_calls c s hl _ _ _ (by simp)) ?_
  simp
  exact endA_eq (by simp) (by simp)
theorem place_calls (w : Ws) (c : Ce) (o : AV) (s : ByteArray) (hl : c.places.length ≤ 1000000) (σ : Store) (ns n : Nm) (hn : σ n = some (.var (wkC w c o))) : ACalls Tryz.prog 49 [.ptr n 0, .str s] σ ns fun e σ' => e = .ret (.int .i64 (placeIx c s)) ∧ σ' = σ := by
  refine acalls_val fun ns _ hns => ?_; refine acalls_of_wpc Tryz.mixed Tryz.dr49 Tryz.func49 rfl (Tryz.fit49 _ rfl) Tryz.en49 (fun hσ => ?_); simp [Tryz.ntmps49]
  have hnn := ne_own hσ hn
  have hn2 := own_ne hσ hn
  simp [hn, hnn, hn2]
  refine CallK.use (placeIF_calls c s hl _ _ _ (by simp)) ?_
  simp
  exact endA_eq (by simp) (by simp)
end Go.Proofs
