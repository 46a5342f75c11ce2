/- FetchValid: the statement, out of what the executor answers.
Conditions: none. -/
import Derived.Test.YtjlhclmgjdabfaaGreatFV0
import Derived.Test.YtjlhclmgjdabfaaGreatFVF
namespace Go.Proofs.YtjlhclmgjdabfaaGreat
set_option linter.unusedSimpArgs false
set_option linter.unusedSectionVars false
open Go Go.Ax Go.ChangeShapes Go.WideShapes Go.ChangeAt Go.RowKit
set_option linter.unusedVariables false
set_option maxRecDepth 100000

theorem own16 : ownKnob Tryz.prog.godebug = none := by kernel_rfl
theorem laidOut16 : laidOutB Tryz.prog = true := by kernel_rfl
theorem cells95 : Tryz.prog.cellsOf 95 = 3 := by kernel_rfl
theorem cells27 : Tryz.prog.cellsOf 27 = 4 := by kernel_rfl
theorem cells29 : Tryz.prog.cellsOf 29 = 5 := by kernel_rfl
theorem cells24 : Tryz.prog.cellsOf 24 = 2 := by kernel_rfl
theorem cells3 : Tryz.prog.cellsOf 3 = 1 := by kernel_rfl
theorem cells4 : Tryz.prog.cellsOf 4 = 1 := by kernel_rfl
theorem cells22 : Tryz.prog.cellsOf 22 = 1 := by kernel_rfl
theorem cells25 : Tryz.prog.cellsOf 25 = 1 := by kernel_rfl

def memWf (m : Int × Int × Bool) : Prop := (Lit.int .i64 m.1).wf = true ∧ (Lit.int .i64 m.2.1).wf = true

/-- The executor's slice over object k: nil, or l of n elements. -/
def AbsS (k l n : Nat) (v : Value) : Prop := (v = .slice none 0 0 ∧ l = 0 ∧ n = 0) ∨ (v = .slice (some ⟨k, 0, none⟩) l n ∧ l ≤ n)

theorem absS_of {w : World} {es l k : Nat} {v : Value} {vs : List Value} (hc : Came w es v l vs) (n : Nat) (hn : vs.length = n * es) (he : 0 < es) : AbsS k l n (cameV k es l vs v) := by
  rcases hc.isIt with ⟨e1, e2, e3⟩ | ⟨b, off, c, e1, h1, h2, h3, h4⟩
  · subst e1; subst e2; subst e3
    have : n = 0 := by
      rcases Nat.mul_eq_zero.1 (show n * es = 0 from hn.symm) with h | h
      · exact h
      · omega
    exact .inl ⟨rfl, rfl, this⟩
  · subst e1
    have : n = c := by
      rw [hn] at h2
      exact Nat.eq_of_mul_eq_mul_right he h2
    subst this
    exact .inr ⟨rfl, h1⟩

noncomputable def rowObj (es : Nat) (vs : List Value) : AObj := .cells vs.length es true true (T.ofList vs)

/-- What the executor must answer. -/
def FVPure : Prop := ∀ (total number : Int) (l1 l2 l3 : Nat) (ms : List (Int × Int × Bool)) (zs rs : List Int) (v1 v2 v3 : Value) (a1 a2 a3 a4 : Int),
  (Lit.int .i64 total).wf = true → (Lit.int .i64 number).wf = true → (Lit.int .i64 a1).wf = true → (Lit.int .i64 a2).wf = true → (Lit.int .i64 a3).wf = true → (Lit.int .i64 a4).wf = true →
  ms.length ≤ maxLen → zs.length ≤ maxLen → rs.length ≤ maxLen → (∀ m ∈ ms, memWf m) → (∀ z ∈ zs, (Lit.int .i64 z).wf = true) → (∀ z ∈ rs, (Lit.int .i64 z).wf = true) →
  AbsS 0 l1 ms.length v1 → AbsS 1 l2 zs.length v2 → AbsS 2 l3 rs.length v3 →
  ∃ s', callT env16 100000 tbl16 200 (.fn 3) [.agg ⟨[.int .i64 total, .int .i64 number, v1, v2]⟩, .agg ⟨[.int .i64 a1, .int .i64 a2, .int .i64 a3, .int .i64 a4, v3]⟩]
    { h := ((T.nil.set 0 (rowObj 3 (ms.flatMap memC))).set 1 (rowObj 1 (zs.map (Value.int .i64)))).set 2 (rowObj 1 (rs.map (Value.int .i64))), c := 3, log := [] } = some (.bool true, s')

theorem mem_open {H : Type} {enc : TypeId × Value → H} {w : World} (n : Nat) (cs : List Value) (y : DataW H × List MemPlace) (h : DataW.trod enc Tryz.prog w 0 (fun _ => true) true n 95 cs = some y) (hl : cs.length = 3) : ∃ el, cs = memC el ∧ memWf el := by
  obtain ⟨y0, y1, y2, m, _, _, h0, h1, h2⟩ := Go.Deep.trod_struct3 Tryz.underlying95 h
  match cs, hl with
  | [c0, c1, c2], _ =>
    have k0 : DataW.trod enc Tryz.prog w 0 (fun _ => true) true m 3 [c0] = some y0 := by simpa [cells3] using h0
    have k1 : DataW.trod enc Tryz.prog w 0 (fun _ => true) true m 3 [c1] = some y1 := by simpa [cells3] using h1
    have k2 : DataW.trod enc Tryz.prog w 0 (fun _ => true) true m 4 [c2] = some y2 := by simpa [cells4] using h2
    obtain ⟨n0, e0, _, w0⟩ := DataW.trod_int Tryz.underlying3 k0
    obtain ⟨n1, e1, _, w1⟩ := DataW.trod_int Tryz.underlying3 k1
    obtain ⟨b, e2, _⟩ := DataW.trod_bool Tryz.underlying4 k2
    injection e0 with e0; injection e1 with e1; injection e2 with e2
    exact ⟨(n0, n1, b), by rw [e0, e1, e2]; rfl, w0, w1⟩

/-- The call, out of the executor's answer. -/
theorem fv_call (hpure : FVPure) (w : World) (total number a1 a2 a3 a4 : Int) (u1 u2 u3 : Value) (l1 l2 l3 : Nat) (ms : List (Int × Int × Bool)) (zs rs : List Int)
    (ht : (Lit.int .i64 total).wf = true) (hn : (Lit.int .i64 number).wf = true) (h1 : (Lit.int .i64 a1).wf = true) (h2 : (Lit.int .i64 a2).wf = true) (h3 : (Lit.int .i64 a3).wf = true) (h4 : (Lit.int .i64 a4).wf = true)
    (m1 : ms.length ≤ maxLen) (m2 : zs.length ≤ maxLen) (m3 : rs.length ≤ maxLen) (w1 : ∀ m ∈ ms, memWf m) (w2 : ∀ z ∈ zs, (Lit.int .i64 z).wf = true) (w3 : ∀ z ∈ rs, (Lit.int .i64 z).wf = true)
    (c1 : Came w 3 u1 l1 (ms.flatMap memC)) (c2 : Came w 1 u2 l2 (zs.map (Value.int .i64))) (c3 : Came w 1 u3 l3 (rs.map (Value.int .i64))) :
    Calls Tryz.prog 3 #[.agg #[.int .i64 total, .int .i64 number, u1, u2], .agg #[.int .i64 a1, .int .i64 a2, .int .i64 a3, .int .i64 a4, u3]] w fun e w' => e = .returned (.bool true) ∧ Below w.heap.size w w' := by
  obtain ⟨φ1, l1', g1, r1, q1⟩ := c1.lay (Rel.start w) (k := 0) rfl
  obtain ⟨φ2, l2', g2, r2, q2⟩ := c2.lay r1 (k := 1) (by rw [g1 1 (.inr (by omega))])
  obtain ⟨φ3, l3', g3, r3, q3⟩ := c3.lay r2 (k := 2) (by rw [g2 2 (.inr (by omega)), g1 2 (.inr (by omega))])
  have hlen : ∀ l : List (Int × Int × Bool), (l.flatMap memC).length = l.length * 3 := by
    intro l
    induction l with
    | nil => rfl
    | cons x l ih => rw [List.flatMap_cons, List.length_append, ih, List.length_cons]; simp [memC]; omega
  obtain ⟨s', hs⟩ := hpure total number l1 l2 l3 ms zs rs _ _ _ a1 a2 a3 a4 ht hn h1 h2 h3 h4 m1 m2 m3 w1 w2 w3
    (absS_of (k := 0) c1 ms.length (hlen ms) (by omega)) (absS_of (k := 1) c2 zs.length (by simp) (by omega)) (absS_of (k := 2) c3 rs.length (by simp) (by omega))
  refine open_runT env16_ok.1 env16_ok.2 tbl16_ok 100000 200 3 _ _ _ s' true w φ3 hs ?_ r3 ?_
  · refine .cons (.agg _ _ (.cons (.int _ _) (.cons (.int _ _) (.cons ((q1.mono l2').mono l3') (.cons (q2.mono l3') .nil))))) (.cons (.agg _ _ (.cons (.int _ _) (.cons (.int _ _) (.cons (.int _ _) (.cons (.int _ _) (.cons q3 .nil)))))) .nil)
  · intro b hb _
    have hb' : 3 ≤ b := hb
    rw [g3 b (.inr (by omega)), g2 b (.inr (by omega)), g1 b (.inr (by omega))]

theorem arr4 {cs : Array Value} (h : cs.size = 4) : ∃ x0 x1 x2 x3, cs = #[x0, x1, x2, x3] := by
  obtain ⟨l⟩ := cs
  match l, h with
  | [x0, x1, x2, x3], _ => exact ⟨x0, x1, x2, x3, rfl⟩
theorem arr5 {cs : Array Value} (h : cs.size = 5) : ∃ x0 x1 x2 x3 x4, cs = #[x0, x1, x2, x3, x4] := by
  obtain ⟨l⟩ := cs
  match l, h with
  | [x0, x1, x2, x3, x4], _ => exact ⟨x0, x1, x2, x3, x4, rfl⟩

theorem at_struct {w : World} {r : Reach} {base : Nat} {t : TypeId} {fs : Array Field} {v : Value} (ht : Tryz.prog.underlying t = some (.struct fs)) (h : Value.okWide Tryz.prog w r base t v) : ∃ cs, v = .agg cs ∧ cs.size = Tryz.prog.cellsOf t ∧ Row.okWide Tryz.prog w r base t cs := by
  unfold Value.okWide at h
  rw [ht] at h
  exact h

/-- The job. -/
theorem open_job {H : Type} {enc : TypeId × Value → H} {w : World} {base : Nat} {v : Value} {d : DataW H} {p : List MemPlace} (hv : Value.okWide Tryz.prog w .any base 27 v) (h : DataW.Trod enc Tryz.prog w 0 (fun _ => true) true 27 v d p) :
    ∃ (total number : Int) (u1 u2 : Value) (l1 l2 : Nat) (ms : List (Int × Int × Bool)) (zs : List Int), v = .agg #[.int .i64 total, .int .i64 number, u1, u2] ∧ (Lit.int .i64 total).wf = true ∧ (Lit.int .i64 number).wf = true ∧
      ms.length ≤ maxLen ∧ zs.length ≤ maxLen ∧ (∀ m ∈ ms, memWf m) ∧ (∀ z ∈ zs, (Lit.int .i64 z).wf = true) ∧ Came w 3 u1 l1 (ms.flatMap memC) ∧ Came w 1 u2 l2 (zs.map (Value.int .i64)) := by
  obtain ⟨cs, rfl, sz, row⟩ := at_struct Tryz.underlying27 hv
  rw [cells27] at sz
  obtain ⟨x0, x1, x2, x3, rfl⟩ := arr4 sz
  obtain ⟨fuel, hf⟩ := h
  obtain ⟨y0, y1, y2, m, _, _, h0, h1, h2⟩ := Go.Deep.trod_struct3 Tryz.underlying27 hf
  have k0 : DataW.trod enc Tryz.prog w 0 (fun _ => true) true m 3 [x0] = some y0 := by simpa [Value.cells, cells3] using h0
  have k1 : DataW.trod enc Tryz.prog w 0 (fun _ => true) true m 24 [x1, x2] = some y1 := by simpa [Value.cells, cells24] using h1
  have k2 : DataW.trod enc Tryz.prog w 0 (fun _ => true) true m 25 [x3] = some y2 := by simpa [Value.cells, cells25] using h2
  obtain ⟨z0, z1, m', _, _, j0, j1⟩ := trod_struct2 Tryz.underlying24 k1
  have i0 : DataW.trod enc Tryz.prog w 0 (fun _ => true) true m' 3 [x1] = some z0 := by simpa [cells3] using j0
  have i1 : DataW.trod enc Tryz.prog w 0 (fun _ => true) true m' 22 [x2] = some z1 := by simpa [cells22] using j1
  obtain ⟨total, e0, _, w0⟩ := DataW.trod_int Tryz.underlying3 k0
  obtain ⟨number, e1, _, w1⟩ := DataW.trod_int Tryz.underlying3 i0
  injection e0 with e0; injection e1 with e1
  subst e0; subst e1
  obtain ⟨l1, ms, c1, _, b1, g1⟩ := came_rows memC memWf Tryz.underlying22 cells95 (fun n cs y hy hl => mem_open n cs y hy hl) (fun el v hv => by
    simp only [memC, List.mem_cons, List.not_mem_nil, or_false] at hv
    rcases hv with hv | hv | hv <;> subst hv <;> rfl) (fun el => rfl) i1 (fun a l c e => row_spot row (i := 2) (a := a) (l := l) (c := c) (by rw [e]; rfl))
  obtain ⟨l2, zs, c2, _, b2, g2⟩ := came_ints Tryz.underlying25 Tryz.underlying3 cells3 k2 (fun a l c e => row_spot row (i := 3) (a := a) (l := l) (c := c) (by rw [e]; rfl))
  exact ⟨total, number, x2, x3, l1, l2, ms, zs, rfl, w0, w1, b1, b2, g1, g2, c1, c2⟩

/-- The raw numbers. -/
theorem open_raw {H : Type} {enc : TypeId × Value → H} {w : World} {base : Nat} {v : Value} {d : DataW H} {p : List MemPlace} (hv : Value.okWide Tryz.prog w .any base 29 v) (h : DataW.Trod enc Tryz.prog w 0 (fun _ => true) true 29 v d p) :
    ∃ (a1 a2 a3 a4 : Int) (u3 : Value) (l3 : Nat) (rs : List Int), v = .agg #[.int .i64 a1, .int .i64 a2, .int .i64 a3, .int .i64 a4, u3] ∧ (Lit.int .i64 a1).wf = true ∧ (Lit.int .i64 a2).wf = true ∧ (Lit.int .i64 a3).wf = true ∧ (Lit.int .i64 a4).wf = true ∧
      rs.length ≤ maxLen ∧ (∀ z ∈ rs, (Lit.int .i64 z).wf = true) ∧ Came w 1 u3 l3 (rs.map (Value.int .i64)) := by
  obtain ⟨cs, rfl, sz, row⟩ := at_struct Tryz.underlying29 hv
  rw [cells29] at sz
  obtain ⟨x0, x1, x2, x3, x4, rfl⟩ := arr5 sz
  obtain ⟨fuel, hf⟩ := h
  obtain ⟨xs, m, _, _, _, hlen, hx⟩ := DataW.trod_struct Tryz.underlying29 hf
  have hlen5 : xs.length = 5 := hlen
  have key : ∀ i, i < 5 → ∃ y, xs[i]? = some y := fun i hi => ⟨_, List.getElem?_eq_getElem (by omega)⟩
  obtain ⟨y0, e0⟩ := key 0 (by omega)
  obtain ⟨y1, e1⟩ := key 1 (by omega)
  obtain ⟨y2, e2⟩ := key 2 (by omega)
  obtain ⟨y3, e3⟩ := key 3 (by omega)
  obtain ⟨y4, e4⟩ := key 4 (by omega)
  have h0 := hx 0 _ rfl
  have h1 := hx 1 _ rfl
  have h2 := hx 2 _ rfl
  have h3 := hx 3 _ rfl
  have h4 := hx 4 _ rfl
  rw [e0] at h0; rw [e1] at h1; rw [e2] at h2; rw [e3] at h3; rw [e4] at h4
  have k0 : DataW.trod enc Tryz.prog w 0 (fun _ => true) true m 3 [x0] = some y0 := by simpa [Value.cells, cells3] using h0
  have k1 : DataW.trod enc Tryz.prog w 0 (fun _ => true) true m 3 [x1] = some y1 := by simpa [Value.cells, cells3] using h1
  have k2 : DataW.trod enc Tryz.prog w 0 (fun _ => true) true m 3 [x2] = some y2 := by simpa [Value.cells, cells3] using h2
  have k3 : DataW.trod enc Tryz.prog w 0 (fun _ => true) true m 3 [x3] = some y3 := by simpa [Value.cells, cells3] using h3
  have k4 : DataW.trod enc Tryz.prog w 0 (fun _ => true) true m 25 [x4] = some y4 := by simpa [Value.cells, cells25] using h4
  obtain ⟨a1, f1, _, w1⟩ := DataW.trod_int Tryz.underlying3 k0
  obtain ⟨a2, f2, _, w2⟩ := DataW.trod_int Tryz.underlying3 k1
  obtain ⟨a3, f3, _, w3⟩ := DataW.trod_int Tryz.underlying3 k2
  obtain ⟨a4, f4, _, w4⟩ := DataW.trod_int Tryz.underlying3 k3
  injection f1 with f1; injection f2 with f2; injection f3 with f3; injection f4 with f4
  subst f1; subst f2; subst f3; subst f4
  obtain ⟨l3, rs, c3, _, b3, g3⟩ := came_ints Tryz.underlying25 Tryz.underlying3 cells3 k4 (fun a l c e => row_spot row (i := 4) (a := a) (l := l) (c := c) (by rw [e]; rfl))
  exact ⟨a1, a2, a3, a4, x4, l3, rs, rfl, w1, w2, w3, w4, b3, g3, c3⟩

theorem fv_lifted (hpure : FVPure) (os : Os) (started : os.Started) (H : Type) (enc : TypeId × Value → H) :
    ReturnsInHanded {} Tryz.checked os 3 .any (Rows.fetchValidSpec.pre6 enc Tryz.prog Tryz.f3 Rows.fetchValidRow.domain false) (Rows.fetchValidSpec.post enc Tryz.prog Tryz.f3 false true false false) := by
  refine returnsInHanded_of_change (C := Tryz.checked) own16 started (by kernel_rfl) Tryz.func3
    (ChangeSpec.witness6 (enc := enc) (C := Tryz.checked) false ⟨#[], #[.agg #[.int .i64 0, .int .i64 0, .slice none 0 0, .slice none 0 0], .agg #[.int .i64 0, .int .i64 0, .int .i64 0, .int .i64 0, .slice none 0 0]], []⟩ 8 (by kernel_rfl) (by kernel_rfl) (by kernel_rfl) (by kernel_rfl)) ?_
  intro W base args ds gs before hval0 hW hcnd _
  have hval : ∀ (j : Nat) t v, Tryz.f3.params[j]? = some t → args[j]? = some v → Value.okWide Tryz.prog W .any base t v := hval0
  have hW' := hW
  obtain ⟨p, q, hA0, hV, rfl, hfz, hnd⟩ := hW
  have hA : DataW.TrodAll enc Tryz.prog W 0 (fun _ => true) true Tryz.f3.params.toList args.toList ds p := hA0
  rw [Tryz.params3] at hA hval
  obtain ⟨v0, vs0, d0, ds0, p0, q0, hargs, rfl, rfl, h0, r0⟩ := trodAll_cons hA
  obtain ⟨v1, vs1, d1, ds1, p1, q1, rfl, rfl, rfl, h1, r1⟩ := trodAll_cons r0
  obtain ⟨rfl, rfl, rfl⟩ := trodAll_nil r1
  obtain rfl : args = #[v0, v1] := by cases args; simp_all
  obtain ⟨rfl, rfl⟩ := trodVars_none hV
  have k0 := h0
  have k1 := h1
  have lt0 : ∀ x ∈ p0, x.block < W.heap.size := by obtain ⟨m, hm⟩ := k0; exact DataW.trod_lt m _ _ _ hm
  have lt1 : ∀ x ∈ p1, x.block < W.heap.size := by obtain ⟨m, hm⟩ := k1; exact DataW.trod_lt m _ _ _ hm
  obtain ⟨total, number, u1, u2, l1, l2, ms, zs, rfl, b1, b2, b3, b4, b5, b6, b7, b8⟩ := open_job (hval 0 27 v0 rfl rfl) h0
  obtain ⟨a1, a2, a3, a4, u3, l3, rs, rfl, c1, c2, c3, c4, c5, c6, c7⟩ := open_raw (hval 1 29 v1 rfl rfl) h1
  refine (fv_call hpure W total number a1 a2 a3 a4 u1 u2 u3 l1 l2 l3 ms zs rs b1 b2 c1 c2 c3 c4 b3 b4 c5 b5 b6 c6 b7 b8 c7).mono fun e W' ⟨he, bel⟩ => ?_
  subst he
  exact ⟨_, rfl, _, _, _, [], _, [], hW', trodAll_mk1 (shut_bool Tryz.underlying4 _), (trodAll_cons_mk (Below.trod laidOut16 (by kernel_rfl) (of_decide_eq_true (by kernel_rfl)) k0 bel lt0) (trodAll_cons_mk (Below.trod laidOut16 (by kernel_rfl) (of_decide_eq_true (by kernel_rfl)) k1 bel lt1) trodAll_mk0)), rfl, bel.frame _, fun h => by cases h⟩

/-- The statement, out of the executor's answers. -/
theorem fetchValid_of (hpure : FVPure) : Rows.FetchValidSaid :=
  OpenClaim.holds_of_wide 3 Tryz.f3 rfl rfl rfl rfl rfl rfl rfl ⟨rfl, rfl, rfl, rfl, rfl⟩ rfl rfl rfl rfl rfl (by kernel_rfl) Tryz.func3 fvFacts
    (of_decide_eq_true (by kernel_rfl)) (by unfold Func.isWrapper; first | (rw [if_pos (by decide +kernel)]; kernel_rfl) | (rw [if_neg (by decide +kernel)]; exact ⟨rfl, rfl⟩))
    (fun os started H enc _ => fv_lifted hpure os started H enc)
end Go.Proofs.YtjlhclmgjdabfaaGreat
