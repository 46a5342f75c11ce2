/- FetchLocks: the statement, out of what the executor answers.
Conditions: none. -/
import Derived.Test.YtjlhclmgjdabfaaGreatFLb
import Derived.Test.YtjlhclmgjdabfaaGreatFVF6
namespace Go.Proofs.YtjlhclmgjdabfaaGreat
set_option linter.unusedSimpArgs false
set_option linter.unusedSectionVars false
open Go Go.Ax Go.ChangeShapes Go.WideShapes Go.ChangeAt Go.RowKit
set_option linter.unusedVariables false
set_option maxRecDepth 100000

theorem own16 : ownKnob Tryz.prog.godebug = none := by kernel_rfl
theorem laidOut16 : laidOutB Tryz.prog = true := by kernel_rfl
theorem cells68 : Tryz.prog.cellsOf 68 = 9 := by kernel_rfl
theorem cells66 : Tryz.prog.cellsOf 66 = 7 := by kernel_rfl
theorem cells65 : Tryz.prog.cellsOf 65 = 1 := by kernel_rfl
theorem cells3 : Tryz.prog.cellsOf 3 = 1 := by kernel_rfl

/-- The executor's slice over object k: nil, or l of n elements. -/
def AbsS (k l n : Nat) (v : Value) : Prop := (v = .slice none 0 0 ∧ l = 0 ∧ n = 0) ∨ (v = .slice (some ⟨k, 0, none⟩) l n ∧ l ≤ n)

theorem absS_of {w : World} {es l k : Nat} {v : Value} {vs : List Value} (hc : Came w es v l vs) (n : Nat) (hn : vs.length = n * es) (he : 0 < es) : AbsS k l n (cameV k es l vs v) := by
  rcases hc.isIt with ⟨e1, e2, e3⟩ | ⟨b, off, c, e1, h1, h2, h3, h4⟩
  · subst e1; subst e2; subst e3
    have : n = 0 := by
      rcases Nat.mul_eq_zero.1 (show n * es = 0 from hn.symm) with h | h
      · exact h
      · omega
    exact .inl ⟨rfl, rfl, this⟩
  · subst e1
    have : n = c := by
      rw [hn] at h2
      exact Nat.eq_of_mul_eq_mul_right he h2
    subst this
    exact .inr ⟨rfl, h1⟩
noncomputable def rowObj (es : Nat) (vs : List Value) : AObj := .cells vs.length es true true (T.ofList vs)
theorem hold_row {s : HS} {k l es : Nat} {n : Nat} {v : Value} {L : List Value} (h : AbsS k l n v) (hL : L.length = n * es) (hs : s.h.get k = some (rowObj es L)) (hk : k < s.c) :
    ∃ x : SV, v = .slice x.a x.n x.c ∧ x.n = l ∧ l ≤ n ∧ HoldA (fun _ => True) s x es (L.take (l * es)) := by
  rcases h with ⟨rfl, rfl, rfl⟩ | ⟨rfl, hl⟩
  · exact ⟨⟨none, 0, 0⟩, rfl, rfl, Nat.le_refl _, by simp, .inl rfl⟩
  · have hle : l * es ≤ n * es := Nat.mul_le_mul_right es hl
    refine ⟨⟨some ⟨k, 0, none⟩, l, n⟩, rfl, rfl, hl, ?_, .inr ⟨k, 0, es, true, true, L, rfl, trivial, hs, hk, ?_, by rw [List.drop_zero], .inl rfl⟩⟩
    · rw [List.length_take]; show min (l * es) L.length = l * es; omega
    · show 0 + l * es ≤ L.length; omega
theorem flat_takeP (ms : List Pg) : ∀ (l : Nat), (ms.flatMap pgC).take (l * 9) = (ms.take l).flatMap pgC := by
  induction ms with
  | nil => intro l; simp
  | cons m ms ih =>
    intro l
    cases l with
    | zero => simp
    | succ l =>
      rw [List.flatMap_cons, List.take_succ_cons, List.flatMap_cons, ← ih l, show (l + 1) * 9 = (pgC m).length + l * 9 by rw [pgC_len]; omega, List.take_append, List.take_of_length_le (by omega), Nat.add_sub_cancel_left]

def pgWf (p : Pg) : Prop := p.head < 18446744073709551616
theorem pg_open {H : Type} {enc : TypeId × Value → H} {w : World} (n : Nat) (cs : List Value) (y : DataW H × List MemPlace) (h : DataW.trod enc Tryz.prog w 0 (fun _ => true) true n 68 cs = some y) (hl : cs.length = 9) : ∃ el, cs = pgC el ∧ pgWf el := by
  obtain ⟨y0, y1, y2, m, _, _, h0, h1, h2⟩ := Go.Deep.trod_struct3 Tryz.underlying68 h
  match cs, hl with
  | [c0, c1, c2, c3, c4, c5, c6, c7, c8], _ =>
    have k0 : DataW.trod enc Tryz.prog w 0 (fun _ => true) true m 3 [c0] = some y0 := by simpa [cells3] using h0
    have k1 : DataW.trod enc Tryz.prog w 0 (fun _ => true) true m 65 [c1] = some y1 := by simpa [cells3, cells65] using h1
    have k2 : DataW.trod enc Tryz.prog w 0 (fun _ => true) true m 66 [c2, c3, c4, c5, c6, c7, c8] = some y2 := by simpa [cells3, cells65, cells66] using h2
    obtain ⟨n0, e0, _, _⟩ := DataW.trod_int Tryz.underlying3 k0
    obtain ⟨n1, e1, _, w1⟩ := DataW.trod_int Tryz.underlying65 k1
    obtain ⟨xs, m', _, _, _, hx, ha⟩ := DataW.trod_array Tryz.underlying66 k2
    have key : ∀ i, i < 7 → ∃ z, xs[i]? = some z := fun i hi => ⟨_, List.getElem?_eq_getElem (by omega)⟩
    obtain ⟨z0, g0⟩ := key 0 (by omega)
    obtain ⟨z1, g1⟩ := key 1 (by omega)
    obtain ⟨z2, g2⟩ := key 2 (by omega)
    obtain ⟨z3, g3⟩ := key 3 (by omega)
    obtain ⟨z4, g4⟩ := key 4 (by omega)
    obtain ⟨z5, g5⟩ := key 5 (by omega)
    obtain ⟨z6, g6⟩ := key 6 (by omega)
    have b0 : DataW.trod enc Tryz.prog w 0 (fun _ => true) true m' 65 [c2] = some z0 := by have := ha 0 (by omega); rw [g0] at this; simpa [cells65] using this
    have b1 : DataW.trod enc Tryz.prog w 0 (fun _ => true) true m' 65 [c3] = some z1 := by have := ha 1 (by omega); rw [g1] at this; simpa [cells65] using this
    have b2 : DataW.trod enc Tryz.prog w 0 (fun _ => true) true m' 65 [c4] = some z2 := by have := ha 2 (by omega); rw [g2] at this; simpa [cells65] using this
    have b3 : DataW.trod enc Tryz.prog w 0 (fun _ => true) true m' 65 [c5] = some z3 := by have := ha 3 (by omega); rw [g3] at this; simpa [cells65] using this
    have b4 : DataW.trod enc Tryz.prog w 0 (fun _ => true) true m' 65 [c6] = some z4 := by have := ha 4 (by omega); rw [g4] at this; simpa [cells65] using this
    have b5 : DataW.trod enc Tryz.prog w 0 (fun _ => true) true m' 65 [c7] = some z5 := by have := ha 5 (by omega); rw [g5] at this; simpa [cells65] using this
    have b6 : DataW.trod enc Tryz.prog w 0 (fun _ => true) true m' 65 [c8] = some z6 := by have := ha 6 (by omega); rw [g6] at this; simpa [cells65] using this
    obtain ⟨a0, f0, _, _⟩ := DataW.trod_int Tryz.underlying65 b0
    obtain ⟨a1, f1, _, _⟩ := DataW.trod_int Tryz.underlying65 b1
    obtain ⟨a2, f2, _, _⟩ := DataW.trod_int Tryz.underlying65 b2
    obtain ⟨a3, f3, _, _⟩ := DataW.trod_int Tryz.underlying65 b3
    obtain ⟨a4, f4, _, _⟩ := DataW.trod_int Tryz.underlying65 b4
    obtain ⟨a5, f5, _, _⟩ := DataW.trod_int Tryz.underlying65 b5
    obtain ⟨a6, f6, _, _⟩ := DataW.trod_int Tryz.underlying65 b6
    injection e0 with e0; injection e1 with e1
    injection f0 with f0; injection f1 with f1; injection f2 with f2; injection f3 with f3; injection f4 with f4; injection f5 with f5; injection f6 with f6
    simp only [Lit.wf, Bool.and_eq_true, decide_eq_true_eq] at w1
    obtain ⟨p, rfl⟩ : ∃ p : Nat, n1 = (p : Int) := ⟨n1.toNat, by have h : (0 : Int) ≤ n1 := w1.1; omega⟩
    have hp : p < 18446744073709551616 := by have h : (p : Int) ≤ 18446744073709551615 := w1.2; omega
    exact ⟨⟨n0, p, a0, a1, a2, a3, a4, a5, a6⟩, by rw [e0, e1, f0, f1, f2, f3, f4, f5, f6]; rfl, hp⟩

/-- The call, out of the executor's answer. -/
theorem fl_call (w : World) (u1 u2 : Value) (l1 l2 : Nat) (ms : List Pg) (zs : List Int) (w1 : ∀ m ∈ ms, pgWf m) (c1 : Came w 9 u1 l1 (ms.flatMap pgC)) (c2 : Came w 1 u2 l2 (zs.map (Value.int .i64))) :
    Calls Tryz.prog 6 #[u1, u2] w fun e w' => e = .returned (.bool true) ∧ Below w.heap.size w w' := by
  obtain ⟨φ1, l1', g1, r1, q1⟩ := c1.lay (Rel.start w) (k := 0) rfl
  obtain ⟨φ2, l2', g2, r2, q2⟩ := c2.lay r1 (k := 1) (by rw [g1 1 (.inr (by omega))])
  have a1 := absS_of (k := 0) c1 ms.length (flat_len pgC_len ms) (by omega)
  have a2 := absS_of (k := 1) c2 zs.length (by simp) (by omega)
  generalize hs : ({ h := (T.nil.set 0 (rowObj 9 (ms.flatMap pgC))).set 1 (rowObj 1 (zs.map (Value.int .i64))), c := 2, log := [] } : HS) = s
  have e0 : s.h.get 0 = some (rowObj 9 (ms.flatMap pgC)) := by rw [← hs, T.get_set, if_neg (by omega), T.get_set, if_pos rfl]
  have e1 : s.h.get 1 = some (rowObj 1 (zs.map (Value.int .i64))) := by rw [← hs, T.get_set, if_pos rfl]
  have ec : s.c = 2 := by rw [← hs]
  obtain ⟨x1, k1, x1n, x1l, hx1⟩ := hold_row a1 (flat_len pgC_len ms) e0 (by omega)
  obtain ⟨x2, k2, x2n, x2l, hx2⟩ := hold_row a2 (by simp) e1 (by omega)
  rw [flat_takeP] at hx1
  rw [Nat.mul_one, ← List.map_take] at hx2
  obtain ⟨r, s', h4, h5⟩ := r6 x1 x2 (ms.take l1) (zs.take l2) s (fun p hp => w1 p (List.mem_of_mem_take hp)) hx1 hx2.hold 200 (by omega)
  have h5 : r = true := h5
  have hs' : callT env16 100000 tbl16 200 (.fn 6) [cameV 0 9 l1 (ms.flatMap pgC) u1, cameV 1 1 l2 (zs.map (Value.int .i64)) u2] s = some (.bool true, s') := by
    rw [k1, k2]
    exact h4.trans (by rw [h5]; rfl)
  rw [← hs] at hs'
  refine open_runT env16_ok.1 env16_ok.2 tbl16_ok 100000 200 6 _ _ _ s' true w φ2 hs' ?_ r2 ?_
  · exact .cons (q1.mono l2') (.cons q2 .nil)
  · intro b hb _
    have hb' : 2 ≤ b := hb
    rw [g2 b (.inr (by omega)), g1 b (.inr (by omega))]

theorem fl_lifted (os : Os) (started : os.Started) (H : Type) (enc : TypeId × Value → H) :
    ReturnsInHanded {} Tryz.checked os 6 .any (Rows.fetchLocksSpec.pre6 enc Tryz.prog Tryz.f6 Rows.fetchLocksRow.domain false) (Rows.fetchLocksSpec.post enc Tryz.prog Tryz.f6 false true false false) := by
  refine returnsInHanded_of_change (C := Tryz.checked) own16 started (by kernel_rfl) Tryz.func6
    (ChangeSpec.witness6 (enc := enc) (C := Tryz.checked) false ⟨#[], #[.slice none 0 0, .slice none 0 0], []⟩ 8 (by kernel_rfl) (by kernel_rfl) (by kernel_rfl) (by kernel_rfl)) ?_
  intro W base args ds gs before hval0 hW hcnd _
  have hval : ∀ (j : Nat) t v, Tryz.f6.params[j]? = some t → args[j]? = some v → Value.okWide Tryz.prog W .any base t v := hval0
  have hW' := hW
  obtain ⟨p, q, hA0, hV, rfl, hfz, hnd⟩ := hW
  have hA : DataW.TrodAll enc Tryz.prog W 0 (fun _ => true) true Tryz.f6.params.toList args.toList ds p := hA0
  rw [Tryz.params6] at hA hval
  obtain ⟨v0, vs0, d0, ds0, p0, q0, hargs, rfl, rfl, h0, r0⟩ := trodAll_cons hA
  obtain ⟨v1, vs1, d1, ds1, p1, q1, rfl, rfl, rfl, h1, r1⟩ := trodAll_cons r0
  obtain ⟨rfl, rfl, rfl⟩ := trodAll_nil r1
  obtain rfl : args = #[v0, v1] := by cases args; simp_all
  obtain ⟨rfl, rfl⟩ := trodVars_none hV
  have k0 := h0
  have k1 := h1
  have lt0 : ∀ x ∈ p0, x.block < W.heap.size := by obtain ⟨m, hm⟩ := k0; exact DataW.trod_lt m _ _ _ hm
  have lt1 : ∀ x ∈ p1, x.block < W.heap.size := by obtain ⟨m, hm⟩ := k1; exact DataW.trod_lt m _ _ _ hm
  have hv0 : Value.okWide Tryz.prog W .any base 40 v0 := hval 0 40 v0 rfl rfl
  have hv1 : Value.okWide Tryz.prog W .any base 25 v1 := hval 1 25 v1 rfl rfl
  obtain ⟨f0, i0⟩ := h0
  obtain ⟨f1, i1⟩ := h1
  have cell0 : ∀ a l c, v0 = .slice (some a) l c → a.spot = none ∧ a.block < W.heap.size := fun a l c e => by
    subst e
    unfold Value.okWide at hv0
    rw [Tryz.underlying40] at hv0
    exact slice_spot hv0
  have cell1 : ∀ a l c, v1 = .slice (some a) l c → a.spot = none ∧ a.block < W.heap.size := fun a l c e => by
    subst e
    unfold Value.okWide at hv1
    rw [Tryz.underlying25] at hv1
    exact slice_spot hv1
  obtain ⟨b0, m0, m0', rfl⟩ := okWide_slice Tryz.underlying40 hv0
  obtain ⟨b1, m1, m1', rfl⟩ := okWide_slice Tryz.underlying25 hv1
  obtain ⟨l1, ms, c1, _, _, g1⟩ := came_rows pgC pgWf Tryz.underlying40 cells68 (fun n cs y hy hl => pg_open n cs y hy hl) (fun el v hv => by
    simp only [pgC, List.mem_cons, List.not_mem_nil, or_false] at hv
    rcases hv with hv | hv | hv | hv | hv | hv | hv | hv | hv <;> subst hv <;> rfl) (fun el => rfl) i0 cell0
  obtain ⟨l2, zs, c2, _, _, g2⟩ := came_ints Tryz.underlying25 Tryz.underlying3 cells3 i1 cell1
  refine (fl_call W _ _ l1 l2 ms zs g1 c1 c2).mono fun e W' ⟨he, bel⟩ => ?_
  subst he
  exact ⟨_, rfl, _, _, _, [], _, [], hW', trodAll_mk1 (shut_bool Tryz.underlying4 _), (trodAll_cons_mk (Below.trod laidOut16 (by kernel_rfl) (of_decide_eq_true (by kernel_rfl)) k0 bel lt0) (trodAll_cons_mk (Below.trod laidOut16 (by kernel_rfl) (of_decide_eq_true (by kernel_rfl)) k1 bel lt1) trodAll_mk0)), rfl, bel.frame _, fun h => by cases h⟩

/-- The given statement: bodegalaw16.FetchLocks returns true for every input. -/
theorem fetchLocks : Rows.FetchLocksSaid :=
  OpenClaim.holds_of_wide 6 Tryz.f6 rfl rfl rfl rfl rfl rfl rfl ⟨rfl, rfl, rfl, rfl, rfl⟩ rfl rfl rfl rfl rfl (by kernel_rfl) Tryz.func6 flFacts
    (of_decide_eq_true (by kernel_rfl)) (by unfold Func.isWrapper; first | (rw [if_pos (by decide +kernel)]; kernel_rfl) | (rw [if_neg (by decide +kernel)]; exact ⟨rfl, rfl⟩))
    (fun os started H enc _ => fl_lifted os started H enc)
end Go.Proofs.YtjlhclmgjdabfaaGreat
