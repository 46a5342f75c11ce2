/- The abstract executor: what a law is told of its arguments.
Conditions: none. -/
import Derived.Deep.Slices
import Derived.Deep.Strs
import Derived.OpenShut
import Derived.ProofKit
import Derived.Test.YtjlhclmgjdabfaaGreatAxH
namespace Go.Ax
set_option linter.unusedVariables false
set_option linter.unusedSimpArgs false
set_option linter.unusedSectionVars false
open Go.RowKit (Below)

section
variable {P : Program} {w : World} {H : Type} {enc : TypeId × Value → H}

theorem slice_spot {r : Reach} {base : Nat} {u : TypeId} {a : Addr} {l c : Nat} (h : Cell.okWide P w r base u (.slice (some a) l c)) : a.spot = none ∧ a.block < w.heap.size := by
  have key : Cell.ok P w r base u (.slice (some a) l c) → a.spot = none ∧ a.block < w.heap.size := by
    intro h
    unfold Cell.ok at h
    cases hu : P.underlying u with
    | none => rw [hu] at h; exact h.elim
    | some d =>
      rw [hu] at h
      cases d with
      | slice e =>
        obtain ⟨_, _, _, h1, row, cells, h2, _⟩ := h
        refine ⟨h1, ?_⟩
        unfold World.shape? at h2
        cases hb : w.heap[a.block]? with
        | none => rw [hb] at h2; cases h2
        | some o => exact (Array.getElem?_eq_some_iff.1 hb).1
      | _ => exact h.elim
  unfold Cell.okWide at h
  cases hu : P.underlying u with
  | none => rw [hu] at h; exact key h
  | some d =>
    rw [hu] at h
    cases d <;> exact key h

theorem row_spot {r : Reach} {base : Nat} {t : TypeId} {cs : Array Value} (h : Row.okWide P w r base t cs) {i : Nat} {a : Addr} {l c : Nat} (hi : cs[i]? = some (.slice (some a) l c)) : a.spot = none ∧ a.block < w.heap.size := by
  obtain ⟨ts, _, _, h1⟩ := h
  obtain ⟨u, _, h2⟩ := h1 i _ hi
  exact slice_spot h2

/-- A slice of integers. -/
theorem came_ints {t e : TypeId} {k : IntKind} {fuel : Nat} {v : Value} {x : DataW H × List MemPlace} (ht : P.underlying t = some (.slice e)) (he : P.underlying e = some (.int k)) (hc : P.cellsOf e = 1)
    (h : DataW.trod enc P w 0 (fun _ => true) true fuel t [v] = some x) (hsp : ∀ a l c, v = .slice (some a) l c → a.spot = none ∧ a.block < w.heap.size) :
    ∃ (l : Nat) (zs : List Int), Came w 1 v l (zs.map (Value.int k)) ∧ l ≤ zs.length ∧ zs.length ≤ maxLen ∧ ∀ n ∈ zs, (Lit.int k n).wf = true := by
  rcases Go.ChangeShapes.open_ints ht he hc h with ⟨hcs, _⟩ | ⟨a, len, cap, zs, hcs, _, hl, hm, hz, _, hcell, hwf⟩
  · injection hcs with hcs
    exact ⟨0, [], ⟨.inl ⟨hcs, rfl, rfl⟩, fun x h => by simp at h⟩, Nat.le_refl _, Nat.zero_le _, fun n h => by simp at h⟩
  · injection hcs with hcs
    simp only [if_true] at hz
    obtain ⟨h1, h2⟩ := hsp a len cap hcs
    obtain ⟨b, off, sp⟩ := a
    simp only at h1 h2
    subst h1
    refine ⟨len, zs, ⟨.inr ⟨b, off, cap, hcs, hl, by simp [hz], h2, fun i x hx => ?_⟩, fun x hx => ?_⟩, by omega, by omega, hwf⟩
    · rw [List.getElem?_map] at hx
      cases hzi : zs[i]? with
      | none => rw [hzi] at hx; cases hx
      | some z =>
        rw [hzi] at hx; injection hx with hx; subst hx
        have hi : i < zs.length := (List.getElem?_eq_some_iff.1 hzi).1
        have := hcell i hi
        rw [List.getD_eq_getElem?_getD, hzi] at this
        simp only [Option.getD_some] at this
        rw [← this]
        congr 1
        unfold Addr.add
        split
        · rename_i e; subst e; rfl
        · rfl
    · obtain ⟨z, _, e⟩ := List.mem_map.1 hx
      subst e; rfl

theorem list_of {α : Type} {p : Nat → α → Prop} : ∀ (m : Nat), (∀ i, i < m → ∃ x, p i x) → ∃ xs : List α, xs.length = m ∧ ∀ i, i < m → ∃ x, xs[i]? = some x ∧ p i x
  | 0, _ => ⟨[], rfl, fun i hi => by omega⟩
  | m + 1, h => by
    obtain ⟨xs, h1, h2⟩ := list_of m (fun i hi => h i (by omega))
    obtain ⟨x, hx⟩ := h m (Nat.lt_succ_self m)
    refine ⟨xs ++ [x], by simp [h1], fun i hi => ?_⟩
    by_cases e : i = m
    · subst e; exact ⟨x, by rw [List.getElem?_append_right (by omega), h1]; simp, hx⟩
    · obtain ⟨y, k1, k2⟩ := h2 i (by omega)
      exact ⟨y, by rw [List.getElem?_append_left (by omega)]; exact k1, k2⟩

theorem cells_get {base : Nat} {a : Addr} {n : Nat} {cs : List Value} (h : w.cells? base a n = some cs) : cs.length = n ∧ ∀ j v, cs[j]? = some v → w.cell? (a.add j) = some v := by
  unfold World.cells? at h
  split at h
  · have hl : cs.length = n := by have := mapM_some_length h; simpa using this
    refine ⟨hl, fun j v hj => ?_⟩
    have hjn : j < n := by rw [← hl]; exact (List.getElem?_eq_some_iff.1 hj).1
    have := mapM_some_get h j j (by simp [hjn])
    rw [← this] at hj; exact hj
  · cases h

theorem flat_get {α : Type} {es : Nat} (f : α → List Value) : ∀ (xs : List α), (∀ x ∈ xs, (f x).length = es) → ∀ (i : Nat) v, (xs.flatMap f)[i]? = some v → ∃ k j x, i = k * es + j ∧ xs[k]? = some x ∧ (f x)[j]? = some v
  | [], _, i, v, h => by simp at h
  | x :: xs, hl, i, v, h => by
    rw [List.flatMap_cons] at h
    have hx := hl x List.mem_cons_self
    by_cases hi : i < es
    · rw [List.getElem?_append_left (by omega)] at h
      exact ⟨0, i, x, by omega, rfl, h⟩
    · rw [List.getElem?_append_right (by omega)] at h
      obtain ⟨k, j, y, h1, h2, h3⟩ := flat_get f xs (fun y hy => hl y (List.mem_cons_of_mem _ hy)) _ v h
      exact ⟨k + 1, j, y, by rw [Nat.add_mul]; omega, by simpa using h2, h3⟩

/-- A slice of plain elements. -/
theorem came_rows {α : Type} {t e : TypeId} {es fuel : Nat} {v : Value} {x : DataW H × List MemPlace} (f : α → List Value) (good : α → Prop) (ht : P.underlying t = some (.slice e)) (hc : P.cellsOf e = es)
    (hel : ∀ n cs y, DataW.trod enc P w 0 (fun _ => true) true n e cs = some y → cs.length = es → ∃ el, cs = f el ∧ good el) (hp : ∀ el, ∀ v ∈ f el, constOK1 v = true) (hlen : ∀ el, (f el).length = es)
    (h : DataW.trod enc P w 0 (fun _ => true) true fuel t [v] = some x) (hsp : ∀ a l c, v = .slice (some a) l c → a.spot = none ∧ a.block < w.heap.size) :
    ∃ (l : Nat) (xs : List α), Came w es v l (xs.flatMap f) ∧ l ≤ xs.length ∧ xs.length ≤ maxLen ∧ ∀ y ∈ xs, good y := by
  rcases Go.Deep.open_slice ht h with ⟨hcs, _⟩ | ⟨a, len, cap, m, n, D, Pl, hcs, _, hl, hm, hmm, _, hx⟩
  · injection hcs with hcs
    exact ⟨0, [], ⟨.inl ⟨hcs, rfl, rfl⟩, fun x h => by simp at h⟩, Nat.le_refl _, Nat.zero_le _, fun n h => by simp at h⟩
  · injection hcs with hcs
    simp only [if_true] at hmm
    subst hmm
    obtain ⟨h1, h2⟩ := hsp a len m hcs
    obtain ⟨b, off, sp⟩ := a
    simp only at h1 h2
    subst h1
    obtain ⟨xs, k1, k2⟩ := list_of (p := fun i (el : α) => w.cells? 0 ((⟨b, off, none⟩ : Addr).add (i * es)) es = some (f el) ∧ good el) m (fun i hi => by
      obtain ⟨cs', c1, c2⟩ := hx i hi
      rw [hc] at c1
      obtain ⟨el, e1, e2⟩ := hel _ _ _ c2 (cells_get c1).1
      exact ⟨el, by rw [← e1]; exact c1, e2⟩)
    refine ⟨len, xs, ⟨.inr ⟨b, off, m, hcs, hl, ?_, h2, fun i y hy => ?_⟩, fun y hy => ?_⟩, by omega, by omega, fun y hy => ?_⟩
    · rw [← k1]
      clear k1 k2
      induction xs with
      | nil => simp
      | cons x xs ih => rw [List.flatMap_cons, List.length_append, ih, hlen, List.length_cons, Nat.add_mul]; omega
    · obtain ⟨k, j, el, e1, e2, e3⟩ := flat_get f xs (fun x _ => hlen x) i y hy
      have hk : k < m := by rw [← k1]; exact (List.getElem?_eq_some_iff.1 e2).1
      obtain ⟨el', e4, e5, _⟩ := k2 k hk
      rw [e2] at e4; injection e4 with e4; subst e4
      have := (cells_get e5).2 j y e3
      rw [← this]
      congr 1
      unfold Addr.add
      subst e1
      by_cases z1 : k * es = 0
      · rw [if_pos z1]
        by_cases z2 : j = 0
        · simp [z1, z2]
        · simp [z1, z2]
      · rw [if_neg z1]
        by_cases z2 : j = 0
        · simp [z2]
        · simp [z2, Nat.add_assoc]
    · obtain ⟨el, _, e2⟩ := List.mem_flatMap.1 hy
      exact hp el y e2
    · obtain ⟨i, hi⟩ := List.getElem?_of_mem hy
      have hk : i < m := by rw [← k1]; exact (List.getElem?_eq_some_iff.1 hi).1
      obtain ⟨el', e4, _, e6⟩ := k2 i hk
      rw [hi] at e4; injection e4 with e4; subst e4; exact e6
end
end Go.Ax
