/- bodegalaw16.FetchValid returns true for every input: fetch.Valid and the reference agree on which jobs are valid.
Conditions: none. -/
import Derived.Test.YtjlhclmgjdabfaaGreatC8
namespace Go.Proofs.YtjlhclmgjdabfaaGreat
set_option linter.unusedSimpArgs false
set_option linter.unusedSectionVars false
open Go Go.Ax
set_option linter.unusedVariables false
set_option maxRecDepth 100000

theorem hold_row {s : HS} {k l es : Nat} {n : Nat} {v : Value} {L : List Value} (h : AbsS k l n v) (hL : L.length = n * es) (hs : s.h.get k = some (rowObj es L)) (hk : k < s.c) :
    ∃ x : SV, v = .slice x.a x.n x.c ∧ x.n = l ∧ l ≤ n ∧ Hold s x es (L.take (l * es)) := by
  rcases h with ⟨rfl, rfl, rfl⟩ | ⟨rfl, hl⟩
  · exact ⟨⟨none, 0, 0⟩, rfl, rfl, Nat.le_refl _, by simp, .inl rfl⟩
  · have hle : l * es ≤ n * es := Nat.mul_le_mul_right es hl
    refine ⟨⟨some ⟨k, 0, none⟩, l, n⟩, rfl, rfl, hl, ?_, .inr ⟨k, 0, es, true, true, L, rfl, hs, hk, ?_, by rw [List.drop_zero]⟩⟩
    · rw [List.length_take]; show min (l * es) L.length = l * es; omega
    · show 0 + l * es ≤ L.length; omega

theorem flat_take (ms : List Mem) : ∀ (l : Nat), (ms.flatMap memC).take (l * 3) = (ms.take l).flatMap memC := by
  induction ms with
  | nil => intro l; simp
  | cons m ms ih =>
    intro l
    cases l with
    | zero => simp
    | succ l =>
      rw [List.flatMap_cons, List.take_succ_cons, List.flatMap_cons, ← ih l, show (l + 1) * 3 = (memC m).length + l * 3 by rw [memC_len]; omega, List.take_append, List.take_of_length_le (by omega), Nat.add_sub_cancel_left]

theorem fvPure : FVPure := by
  intro total number l1 l2 l3 ms zs rs v1 v2 v3 a1 a2 a3 a4 _ _ _ _ _ _ _ _ _ _ _ _ h1 h2 h3
  generalize hs : ({ h := ((T.nil.set 0 (rowObj 3 (ms.flatMap memC))).set 1 (rowObj 1 (zs.map (Value.int .i64)))).set 2 (rowObj 1 (rs.map (Value.int .i64))), c := 3, log := [] } : HS) = s
  have e0 : s.h.get 0 = some (rowObj 3 (ms.flatMap memC)) := by rw [← hs, T.get_set, if_neg (by decide), T.get_set, if_neg (by decide), T.get_set, if_pos rfl]
  have e1 : s.h.get 1 = some (rowObj 1 (zs.map vI)) := by rw [← hs, T.get_set, if_neg (by decide), T.get_set, if_pos rfl]
  have e2 : s.h.get 2 = some (rowObj 1 (rs.map vI)) := by rw [← hs, T.get_set, if_pos rfl]
  have ec : s.c = 3 := by rw [← hs]
  obtain ⟨x, rfl, x1, x2, hx⟩ := hold_row h1 (flat_len memC_len ms) e0 (by omega)
  obtain ⟨y, rfl, y1, y2, hy⟩ := hold_row h2 (L := zs.map vI) (by rw [List.length_map]; omega) e1 (by omega)
  obtain ⟨z, rfl, z1, z2, hz⟩ := hold_row h3 (L := rs.map vI) (by rw [List.length_map]; omega) e2 (by omega)
  rw [flat_take] at hx
  rw [Nat.mul_one, ← List.map_take] at hy hz
  obtain ⟨r, s', h4, h5⟩ := r3 100000 (by omega) total number a1 a2 a3 a4 x y z (ms.take l1) (zs.take l2) (rs.take l3) s hx hy hz 200 (by omega)
  have h5 : r = true := h5
  exact ⟨s', by rw [h4, h5]; rfl⟩

/-- The given statement. -/
theorem fetchValid : Rows.FetchValidSaid := fetchValid_of fvPure
end Go.Proofs.YtjlhclmgjdabfaaGreat
