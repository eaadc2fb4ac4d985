/- Operations that make or turn memory. -/
import Derived.Test.YtbnmdfappoeipaaA6
import Derived.Laws.Append
set_option linter.unusedVariables false
set_option linter.unusedSimpArgs false
namespace Go.Abs

section
variable {P : Program} (w : World)
/-- append of a slice onto nil. -/
theorem run_append_nil' (t u ty e eu : TypeId) (i : TypeInfo) (z : Value) (ht : P.underlying t = some (.slice e)) (hu : P.underlying u = some (.slice eu)) (hi : P.info? e = some i) (hz : i.zero = some z)
    (x : Value) (n : Nat) (news : List Value) (hlen : (Builtin.lenOf x).run P w = .ok n w) (hf : (Builtin.firstCells i.size n x).run P w.drew = .ok news.toArray w.drew)
    (h0 : 0 < n) (h63 : (n : Int) ≤ 9223372036854775807) (h48 : n * i.bytes ≤ 281474976710656) :
    (Builtin.append_ #[t, u] ty #[.slice none 0 0, x]).run P w =
      .ok (.slice (some ⟨w.heap.size, 0, none⟩) n (grownCap w n 0 e)) (w.drew.alloc (.cells (news.toArray ++ Builtin.zeroCells z.cells (grownCap w n 0 e - n)) e)) := by
  have hn : n ≠ 0 := by omega
  have h63' : ¬ (9223372036854775807 < (n : Int)) := by omega
  have h48' : ¬ (281474976710656 < Builtin.nextslicecap n 0 * i.bytes) := by rw [nextslicecap_zero h0]; omega
  simp [Builtin.append_, run_underlying ht, run_underlying hu, sizeOf, typeInfo, zeroValue, hi, hz, hlen, hn, h63', h48', Question.forced, run_firstCells_none, hf, newRow, grownCap]
theorem run_append_grow' (t u ty e eu : TypeId) (i : TypeInfo) (z : Value) (ht : P.underlying t = some (.slice e)) (hu : P.underlying u = some (.slice eu)) (hi : P.info? e = some i) (hz : i.zero = some z)
    (b : Addr) (sLen sCap : Nat) (olds : List Value) (hlo : olds.length = sLen * i.size) (holds : ∀ j v, olds[j]? = some v → w.cell? (b.add j) = some v)
    (x : Value) (n : Nat) (news : List Value) (hlen : (Builtin.lenOf x).run P w = .ok n w) (hf : (Builtin.firstCells i.size n x).run P w.drew = .ok news.toArray w.drew)
    (hg : sCap < sLen + n) (h63 : ((sLen + n : Nat) : Int) ≤ 9223372036854775807) (hfit : Builtin.nextslicecap (sLen + n) sCap * i.bytes ≤ 281474976710656) :
    (Builtin.append_ #[t, u] ty #[.slice (some b) sLen sCap, x]).run P w =
      .ok (.slice (some ⟨w.heap.size, 0, none⟩) (sLen + n) (grownCap w (sLen + n) sCap e))
        (w.drew.alloc (.cells (olds.toArray ++ news.toArray ++ Builtin.zeroCells z.cells (grownCap w (sLen + n) sCap e - (sLen + n))) e)) := by
  have hn : ¬ (sLen + n ≤ sCap) := by omega
  have h63' : ¬ (9223372036854775807 < ((sLen : Int) + (n : Int))) := by omega
  have h48' : ¬ (281474976710656 < Builtin.nextslicecap (sLen + n) sCap * i.bytes) := by omega
  have hfo := run_firstCells_some (P := P) w.drew i.size sLen b sLen sCap olds hlo (by simpa using holds)
  simp [Builtin.append_, run_underlying ht, run_underlying hu, sizeOf, typeInfo, zeroValue, hi, hz, hlen, hn, h63', h48', Question.forced, hf, hfo, newRow, grownCap]
  congr 2
  apply Array.ext'
  simp [List.append_assoc]
theorem run_append_none' (t u ty e eu : TypeId) (i : TypeInfo) (ht : P.underlying t = some (.slice e)) (hu : P.underlying u = some (.slice eu)) (hi : P.info? e = some i)
    (base : Option Addr) (sLen sCap : Nat) (hle : sLen ≤ sCap) (x : Value) (hlen : (Builtin.lenOf x).run P w = .ok 0 w) (hf : (Builtin.firstCells i.size 0 x).run P w = .ok #[] w) :
    (Builtin.append_ #[t, u] ty #[.slice base sLen sCap, x]).run P w = .ok (.slice base sLen sCap) w := by
  cases base with
  | none => simp [Builtin.append_, run_underlying ht, run_underlying hu, sizeOf, typeInfo, hi, hlen, hle, hf]
  | some a => simp [Builtin.append_, run_underlying ht, run_underlying hu, sizeOf, typeInfo, hi, hlen, hle, hf, storeCells]
theorem run_append_room' (t u ty e eu T : TypeId) (i : TypeInfo) (ht : P.underlying t = some (.slice e)) (hu : P.underlying u = some (.slice eu)) (hi : P.info? e = some i)
    (g o sLen sCap : Nat) (cur : Array Value) (hg : w.heap[g]? = some (.cells cur T (0, 0)))
    (x : Value) (n : Nat) (news : List Value) (hlen : (Builtin.lenOf x).run P w = .ok n w) (hf : (Builtin.firstCells i.size n x).run P w = .ok news.toArray w) (h1 : ∀ u ∈ news, u.oneCell' = true)
    (hroom : sLen + n ≤ sCap) (hfit : o + sLen * i.size + news.length ≤ cur.size) :
    (Builtin.append_ #[t, u] ty #[.slice (some ⟨g, o, none⟩) sLen sCap, x]).run P w =
      .ok (.slice (some ⟨g, o, none⟩) (sLen + n) sCap) (w.setRow g (cur.toList.take (o + sLen * i.size) ++ news ++ cur.toList.drop (o + sLen * i.size + news.length)).toArray) := by
  have hst := run_storeCells_at P g (o + sLen * i.size) T news 0 cur w hg (by simpa using hfit) h1
  simp only [Nat.add_zero] at hst
  simp [Builtin.append_, run_underlying ht, run_underlying hu, sizeOf, typeInfo, hi, hlen, hroom, hf, Addr.add_mid, hst]
end

/-! ### Elements in memory -/
/-- The cells of elements, one behind the other. -/
theorem flatten_get {α : Type} : ∀ (es : List (List α)) (sz i j : Nat) (e : List α) (v : α), (∀ e, e ∈ es → e.length = sz) → es[i]? = some e → e[j]? = some v → es.flatten[i * sz + j]? = some v
  | [], _, _, _, _, _, _, h, _ => by simp at h
  | x :: es, sz, 0, j, e, v, hs, h, hv => by
    simp at h; subst h
    have : j < x.length := (List.getElem?_eq_some_iff.1 hv).1
    simp [List.getElem?_append_left this, hv]
  | x :: es, sz, i + 1, j, e, v, hs, h, hv => by
    have hx : x.length = sz := hs x (by simp)
    simp at h
    have := flatten_get es sz i j e v (fun e he => hs e (by simp [he])) h hv
    simp only [List.flatten_cons]
    rw [List.getElem?_append_right (by rw [hx, Nat.add_mul]; omega), ← this]
    congr 1
    rw [hx, Nat.add_mul]; omega
theorem flatten_len {α : Type} : ∀ (es : List (List α)) (sz : Nat), (∀ e, e ∈ es → e.length = sz) → es.flatten.length = es.length * sz
  | [], sz, _ => by simp
  | x :: es, sz, hs => by
    simp only [List.flatten_cons, List.length_append, hs x (by simp), flatten_len es sz (fun e he => hs e (by simp [he])), List.length_cons, Nat.add_mul]
    omega
/-- A slice by value is readable: the cells that it has. -/
theorem VR.sl_cells {ρ : Names} {M : Mem} {σ : Store} {w : World} {sz : Nat} {es : List (List AV)} {c : Cap} {x : Value} (hr : Rel ρ M σ w) (h : VR ρ M (.sl sz es c) x) :
    ∃ (base : Option Addr) (cap : Nat) (xs : List Value), x = .slice base es.length cap ∧ es.length ≤ cap ∧ (∀ e, e ∈ es → e.length = sz) ∧ VRs ρ M es.flatten xs ∧ (base = none → es = [] ∧ cap = 0) ∧
      (∀ a, base = some a → (xs = [] ∨ a.spot = none) ∧ ∀ j v, xs[j]? = some v → M ⟨a.block, a.off + j, none⟩ = some v) := by
  cases h with
  | slnil hc => exact ⟨none, 0, [], rfl, Nat.le_refl _, by simp, by simpa using VRs.nil, fun _ => ⟨rfl, rfl⟩, fun a h => by simp at h⟩
  | slz a hc => exact ⟨some a, 0, [], rfl, Nat.le_refl _, by simp, by simpa using VRs.nil, fun h => (by cases h), fun a' _ => ⟨.inl rfl, by simp⟩⟩
  | sl hsz hcap hcc ht h1 h2 =>
    rename_i b o cap
    have hall : ∀ n, n < es.flatten.length → ∃ i j e v, es[i]? = some e ∧ e[j]? = some v ∧ n = i * sz + j := by
      intro n hn
      rw [flatten_len es sz hsz] at hn
      have hsz0 : 0 < sz := by
        rcases Nat.eq_zero_or_pos sz with h | h
        · subst h; simp at hn
        · exact h
      have hi : n / sz < es.length := (Nat.div_lt_iff_lt_mul hsz0).2 hn
      have hj : n % sz < (es[n / sz]).length := by rw [hsz _ (List.getElem_mem hi)]; exact Nat.mod_lt _ hsz0
      exact ⟨n / sz, n % sz, _, _, List.getElem?_eq_getElem hi, List.getElem?_eq_getElem hj, by rw [Nat.mul_comm, Nat.div_add_mod]⟩
    have hget : ∀ n, n < es.flatten.length → ∃ y, M ⟨b, o + n, none⟩ = some y := by
      intro n hn
      obtain ⟨i, j, e, v, he, hv, rfl⟩ := hall n hn
      have := h1 i j e v he hv
      rw [← Nat.add_assoc]
      exact Option.isSome_iff_exists.1 this
    refine ⟨some ⟨b, o, none⟩, cap, (List.range es.flatten.length).map fun n => (M ⟨b, o + n, none⟩).getD undef, rfl, hcap, hsz, ⟨by simp, fun n v x hv hx => ?_⟩, (fun h => by simp at h), (fun a ha => ?_)⟩
    · have hn : n < es.flatten.length := (List.getElem?_eq_some_iff.1 hv).1
      obtain ⟨y, hy⟩ := hget n hn
      simp only [List.getElem?_map, List.getElem?_range hn, Option.map_some, hy, Option.getD_some, Option.some.injEq] at hx
      subst hx
      obtain ⟨i, j, e, u, he, hu, rfl⟩ := hall n hn
      have := flatten_get es sz i j e u hsz he hu
      rw [hv] at this; injection this with this; subst this
      exact h2 i j e v y he hu (by rwa [Nat.add_assoc])
    · injection ha with ha; subst ha
      refine ⟨.inr rfl, fun j v hv => ?_⟩
      simp only [List.getElem?_map] at hv
      by_cases hn : j < es.flatten.length
      · obtain ⟨y, hy⟩ := hget j hn
        simp only [List.getElem?_range hn, Option.map_some, hy, Option.getD_some, Option.some.injEq] at hv
        subst hv; exact hy
      · rw [List.getElem?_eq_none (by rw [List.length_range]; omega)] at hv; cases hv

theorem Rel.firstCells {ρ : Names} {M : Mem} {σ : Store} {w : World} {P : Program} {k : Nat} {es : List (List AV)} {base : Option Addr} {cap : Nat} {xs : List Value} (hr : Rel ρ M σ w)
    (hlen : xs.length = es.length * k) (hnone : base = none → es = [] ∧ cap = 0) (hb : ∀ a, base = some a → (xs = [] ∨ a.spot = none) ∧ ∀ j v, xs[j]? = some v → M ⟨a.block, a.off + j, none⟩ = some v) (d : Nat) :
    (Builtin.firstCells k es.length (.slice base es.length cap)).run P { w with drawn := d } = .ok xs.toArray { w with drawn := d } := by
  cases base with
  | none =>
    obtain ⟨rfl, rfl⟩ := hnone rfl
    have : xs = [] := List.eq_nil_of_length_eq_zero (by simpa using hlen)
    subst this
    exact run_firstCells_none _ _ _ _ _
  | some a =>
    refine run_firstCells_some _ k es.length a es.length cap xs hlen (fun j v hv => ?_)
    obtain ⟨hsp, hg⟩ := hb a rfl
    rcases hsp with hsp | hsp
    · subst hsp; simp at hv
    have := hr.mem _ _ (hg j v hv)
    have ha : a = ⟨a.block, a.off, none⟩ := by cases a; simp_all
    rw [ha, Addr.add_mid]
    exact this

/-- New stable elements, told as a slice by value. -/
theorem VR.sl_new {ρ : Names} {M : Mem} {b o sz cap : Nat} {es : List (List AV)} {xs : List Value} {c : Cap} (hsz : ∀ e, e ∈ es → e.length = sz) (hv : VRs ρ M es.flatten (xs.take (es.length * sz)))
    (hm : ∀ i, i < es.length * sz → M ⟨b, o + i, none⟩ = xs[i]?) (hcap : es.length ≤ cap) (hc : (c = .exact → cap = es.length) ∧ c ≠ .nil)
    (ht : ∀ n, c = .tok n → ρ n = some ⟨b, o + es.length * sz, (cap - es.length) * sz⟩) : VR ρ M (.sl sz es c) (.slice (some ⟨b, o, none⟩) es.length cap) := by
  have hidx : ∀ (i j : Nat) (e : List AV) (v : AV), es[i]? = some e → e[j]? = some v → i * sz + j < es.length * sz := fun i j e v he hj => by
    have h1 : i < es.length := (List.getElem?_eq_some_iff.1 he).1
    have h2 : j < e.length := (List.getElem?_eq_some_iff.1 hj).1
    rw [hsz e (List.mem_of_getElem? he)] at h2
    calc i * sz + j < i * sz + sz := by omega
      _ = (i + 1) * sz := by rw [Nat.add_mul]; omega
      _ ≤ es.length * sz := Nat.mul_le_mul_right _ h1
  have hx : ∀ (i j : Nat) (e : List AV) (v : AV), es[i]? = some e → e[j]? = some v → ∃ x, xs[i * sz + j]? = some x ∧ VR ρ M v x := fun i j e v he hj => by
    obtain ⟨x, hx, hvx⟩ := hv.ex (flatten_get es sz i j e v hsz he hj)
    rw [List.getElem?_take] at hx
    split at hx
    · exact ⟨x, hx, hvx⟩
    · cases hx
  refine .sl hsz hcap hc ht (fun i j e v he hj => ?_) (fun i j e v x he hj hxm => ?_)
  · obtain ⟨x, hx, _⟩ := hx i j e v he hj
    rw [Nat.add_assoc, hm _ (hidx i j e v he hj), hx]; rfl
  · obtain ⟨y, hy, hvy⟩ := hx i j e v he hj
    rw [Nat.add_assoc, hm _ (hidx i j e v he hj), hy] at hxm
    injection hxm with hxm; subst hxm; exact hvy

/-! ### Literals of slices -/
def abuildSlice (P : Program) (t : TypeId) (len : Nat) (parts : List (Nat × AV)) : Option AV :=
  match tyElem P t with
  | some e => match tySize P e, tyZero P e, parts.mapM (fun p => p.2.cells?) with
    | some k, some z, some es => if parts.map (·.1) = List.range len ∧ es.all (fun e => e.length == k) = true ∧ len * k ≤ 2 ^ 24 ∧ z.length = k then some (.sl k es .exact) else none
    | _, _, _ => none
  | none => none

theorem fill_all {k : Nat} : ∀ (ys : List Value) (j : Nat) (pre suf : List Value), pre.length = j * k → suf.length = ys.length * k → (∀ y ∈ ys, y.cells.size = k) →
    Instr.fill (fun i => some (i * k, k)) (pre ++ suf).toArray ((ys.zipIdx j).map fun p => (p.2, p.1)) = some (pre ++ (ys.map fun y => y.cells.toList).flatten).toArray
  | [], j, pre, suf, h1, h2, _ => by
    have : suf = [] := List.eq_nil_of_length_eq_zero (by simpa using h2)
    subst this; simp [Instr.fill]
  | y :: ys, j, pre, suf, h1, h2, hk => by
    have hy : y.cells.size = k := hk y (by simp)
    have hle : k ≤ suf.length := by rw [h2]; simp [Nat.add_mul]
    have hg : ¬ (j * k + k > (pre ++ suf).length) := by simp [h1]; omega
    simp only [List.zipIdx_cons, List.map_cons, Instr.fill, hy, List.size_toArray, ne_eq, not_true_eq_false, hg, or_self, if_false, decide_false, Bool.or_self, Bool.false_eq_true]
    have hfold := setIfInBounds_foldl y.cells.toList (j * k) 0 (pre ++ suf).toArray (by simp [h1, hy]; omega)
    simp only [Nat.add_zero, List.toList_toArray, Array.length_toList, hy] at hfold
    have hcells : y.cells.zipIdx.foldl (fun cs (c, i) => cs.setIfInBounds (j * k + i) c) (pre ++ suf).toArray = ((pre ++ y.cells.toList) ++ suf.drop k).toArray := by
      apply Array.ext'
      rw [← Array.foldl_toList, Array.toList_zipIdx]
      refine hfold.trans ?_
      rw [← h1]
      simp [List.take_append, List.drop_append]
    rw [hcells, fill_all ys (j + 1) (pre ++ y.cells.toList) (suf.drop k) (by simp [h1, hy, Nat.add_mul]) (by simp [h2, Nat.add_mul]) (fun y hy => hk y (by simp [hy]))]
    simp

theorem mapM_some {α β : Type} {f : α → Option β} : ∀ {l : List α} {r : List β}, l.mapM f = some r → r.length = l.length ∧ ∀ (i : Nat) (a : α), l[i]? = some a → ∃ b, f a = some b ∧ r[i]? = some b
  | [], r, h => by simp at h; subst h; simp
  | x :: l, r, h => by
    simp only [List.mapM_cons, Option.bind_eq_bind, Option.pure_def] at h
    cases hx : f x with
    | none => simp [hx] at h
    | some b =>
      cases hl : l.mapM f with
      | none => simp [hx, hl] at h
      | some r' =>
        simp [hx, hl] at h; subst h
        obtain ⟨h1, h2⟩ := mapM_some hl
        refine ⟨by simp [h1], fun i a ha => ?_⟩
        cases i with
        | zero => simp at ha; subst ha; exact ⟨b, hx, rfl⟩
        | succ i => simp at ha; obtain ⟨c, hc, hr⟩ := h2 i a ha; exact ⟨c, hc, by simpa using hr⟩

theorem abuildSlice_sound {P : Program} {ρ : Names} {M : Mem} {σ : Store} {w : World} {NS : Nm → Prop} {t : TypeId} {len : Nat} {parts : List (Nat × AV)} {parts' : Array (Nat × Value)} {v : AV} (hr : Rel ρ M σ w)
    (hl : parts.length = parts'.size) (hp : ∀ (i : Nat) (p : Nat × AV) (q : Nat × Value), parts[i]? = some p → parts'[i]? = some q → p.1 = q.1 ∧ VR ρ M p.2 q.2) (h : abuildSlice P t len parts = some v) :
    ∃ (x : Value) (w' : World) (M' : Mem), (Instr.buildSlice t len parts').run P w = .ok x w' ∧ VR ρ M' v x ∧ Rel ρ M' σ w' ∧ Evo NS ρ M σ w ρ M' σ w' := by
  unfold abuildSlice at h
  split at h
  · rename_i e he
    split at h
    · rename_i k z es hk hz hes
      split at h
      · rename_i hc
        obtain ⟨hidx, hall, hle, hzl⟩ := hc
        injection h with h; subst h
        obtain ⟨hesl, hesg⟩ := mapM_some hes
        have hlen : parts.length = len := by have := congrArg List.length hidx; simpa using this
        have hsz : ∀ e, e ∈ es → e.length = k := fun e he => by simpa using List.all_eq_true.1 hall e he
        -- the machine's parts
        obtain ⟨ys, hys⟩ : ∃ ys : List Value, ys = parts'.toList.map (·.2) := ⟨_, rfl⟩
        have hysl : ys.length = len := by rw [hys]; simp; omega
        have hq : parts'.toList = (ys.zipIdx).map fun p => (p.2, p.1) := by
          apply List.ext_getElem?
          intro i
          by_cases hi : i < len
          · have hi' : i < parts.length := by omega
            have hi'' : i < parts'.toList.length := by simp; omega
            have h1 := hp i parts[i] parts'.toList[i] (List.getElem?_eq_getElem hi') (by simp)
            have h2 : parts[i].1 = i := by
              have := congrArg (fun l => l[i]?) hidx
              simp [List.getElem?_eq_getElem hi', List.getElem?_range hi] at this
              exact this
            rw [List.getElem?_eq_getElem hi'']
            simp only [List.getElem?_map, List.getElem?_zipIdx, hys, Nat.zero_add]
            rw [List.getElem?_eq_getElem hi'']
            simp only [Option.map_some, Option.some.injEq]
            ext
            · show parts'.toList[i].1 = i
              rw [← h1.1, h2]
            · rfl
          · rw [List.getElem?_eq_none (by simp; omega), List.getElem?_eq_none (by simp; omega)]
        have hvr : ∀ (i : Nat) (e : List AV) (y : Value), es[i]? = some e → ys[i]? = some y → VRs ρ M e y.cells.toList := fun i e y hei hyi => by
          have hi : i < parts.length := by rw [← hesl]; exact (List.getElem?_eq_some_iff.1 hei).1
          have hi'' : i < parts'.toList.length := by simp; omega
          obtain ⟨c, hc, hrc⟩ := hesg i parts[i] (List.getElem?_eq_getElem hi)
          rw [hei] at hrc; injection hrc with hrc; subst hrc
          have h1 := hp i parts[i] parts'.toList[i] (List.getElem?_eq_getElem hi) (by simp)
          rw [hys, List.getElem?_map, List.getElem?_eq_getElem hi''] at hyi
          simp at hyi
          have := h1.2.cells hc
          rw [← hyi]; simpa using this
        have hyk : ∀ y ∈ ys, y.cells.size = k := fun y hy => by
          obtain ⟨i, hi, rfl⟩ := List.getElem_of_mem hy
          have hie : i < es.length := by omega
          have := (hvr i es[i] ys[i] (List.getElem?_eq_getElem hie) (List.getElem?_eq_getElem hi)).len
          rw [hsz _ (List.getElem_mem hie)] at this
          simpa using this.symm
        obtain ⟨zv, hzv, hzc⟩ := tyZero_run hz w
        have hzs : zv.cells.size = k := by have := congrArg List.length hzc; simp at this; omega
        -- the flattened cells
        have hflat : VRs ρ M es.flatten (ys.map fun y => y.cells.toList).flatten := by
          have aux : ∀ (es : List (List AV)) (ys : List Value), es.length = ys.length → (∀ (i : Nat) (e : List AV) (y : Value), es[i]? = some e → ys[i]? = some y → VRs ρ M e y.cells.toList) → VRs ρ M es.flatten (ys.map fun y => y.cells.toList).flatten := by
            intro es
            induction es with
            | nil => intro ys hl _; have : ys = [] := List.eq_nil_of_length_eq_zero (by simpa using hl.symm); subst this; simpa using VRs.nil
            | cons e es ih =>
              intro ys hl hg
              match ys, hl with
              | y :: ys, hl =>
                simp only [List.flatten_cons, List.map_cons]
                exact (hg 0 e y rfl rfl).append (ih ys (by simpa using hl) (fun i e y h1 h2 => hg (i + 1) e y (by simpa using h1) (by simpa using h2)))
          exact aux es ys (by omega) hvr
        obtain ⟨fl, hfl⟩ : ∃ fl : List Value, fl = (ys.map fun y => y.cells.toList).flatten := ⟨_, rfl⟩
        rw [← hfl] at hflat
        have hfll : fl.length = len * k := by rw [← hflat.len, flatten_len es k hsz]; congr 1; omega
        obtain ⟨h1, h2⟩ := hr.alloc_stable (NS := NS) fl e fl.length
        refine ⟨.slice (some ⟨w.heap.size, 0, none⟩) es.length es.length, w.alloc (.cells fl.toArray e), M.with w.heap.size fl fl.length, ?_, ?_, h1, h2⟩
        · have hfill : Instr.fill (fun i => some (i * k, k)) ((Array.range (len * k)).map (zv.cells[· % zv.cells.size]!)) parts'.toList = some fl.toArray := by
            have := fill_all (k := k) ys 0 [] ((List.range (len * k)).map (zv.cells[· % zv.cells.size]!)) (by simp) (by simp [hysl]) hyk
            rw [← hq] at this
            simp only [List.nil_append] at this
            rw [hfl, ← this]
            congr 1
            apply Array.ext'
            simp
          have hcap : ¬ (len * k > 2 ^ 24) := by omega
          have hz0 : len * k = 0 → (Array.range (len * k)).map (zv.cells[· % zv.cells.size]!) = (Array.range (len * k)).map ((#[] : Array Value)[· % (#[] : Array Value).size]!) := fun h => by rw [h]; simp
          simp only [Instr.buildSlice, Sem.run_bind, run_underlying (tyElem_run he), Result.andThen_ok, tySize_run hk, Sem.run_ite, hcap, if_false]
          by_cases h0 : len * k = 0
          · simp only [h0, if_true, Sem.run_pure, Result.andThen_ok]
            rw [hz0 h0] at hfill
            have hf0 : ∀ f : Nat → Value, Array.map f (Array.range 0) = #[] := fun f => by apply Array.ext'; simp
            simp only [h0, hf0] at hfill
            simp [hf0, hfill, newRow, hesl, hlen]
          · simp only [h0, if_false, Sem.run_bind, hzv, Result.andThen_ok, Sem.run_pure]
            simp [hfill, newRow, hesl, hlen]
        · have hg := h2.grows
          refine VR.sl_new (xs := fl) hsz ?_ (fun i hi => ?_) (Nat.le_refl _) ⟨fun _ => rfl, by simp⟩ (fun n h => by cases h)
          · rw [List.take_of_length_le (by rw [hfll]; rw [hesl, hlen]; exact Nat.le_refl _)]
            exact hflat.mono hg
          · rw [Nat.zero_add]
            exact Mem.with_get (by rw [hfll]; rw [hesl, hlen] at hi; exact hi)
      · cases h
    · cases h
  · cases h

end Go.Abs
