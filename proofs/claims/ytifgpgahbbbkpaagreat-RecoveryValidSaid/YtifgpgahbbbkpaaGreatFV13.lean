/- RecoveryValid: the statement, out of what the executor answers.
Conditions: none. -/
import Derived.Test.YtifgpgahbbbkpaaGreatA13
import Derived.Test.YtifgpgahbbbkpaaGreatCRa
import Derived.Test.YtifgpgahbbbkpaaGreatCRd
import Derived.Test.YtifgpgahbbbkpaaGreatFVF13
namespace Go.Proofs.YtifgpgahbbbkpaaGreat
set_option linter.unusedSimpArgs false
set_option linter.unusedSectionVars false
open Go Go.Ax Go.ChangeShapes Go.WideShapes Go.ChangeAt Go.RowKit
set_option linter.unusedVariables false
set_option maxRecDepth 100000

theorem own13 : ownKnob Tryz.prog.godebug = none := by kernel_rfl
theorem laidOut13 : laidOutB Tryz.prog = true := by kernel_rfl
theorem cells127 : Tryz.prog.cellsOf 127 = 3 := by kernel_rfl
theorem cells27 : Tryz.prog.cellsOf 27 = 8 := by kernel_rfl
theorem cells29 : Tryz.prog.cellsOf 29 = 10 := by kernel_rfl
theorem cells24 : Tryz.prog.cellsOf 24 = 2 := by kernel_rfl
theorem cells3 : Tryz.prog.cellsOf 3 = 1 := by kernel_rfl
theorem cells4 : Tryz.prog.cellsOf 4 = 1 := by kernel_rfl
theorem cells22 : Tryz.prog.cellsOf 22 = 1 := by kernel_rfl
theorem cells25 : Tryz.prog.cellsOf 25 = 1 := by kernel_rfl

def memWf (m : Int × Int × Bool) : Prop := (Lit.int .i64 m.1).wf = true ∧ (Lit.int .i64 m.2.1).wf = true
/-- The executor's slice over object k: nil, or l of n elements. -/
def AbsS (k l n : Nat) (v : Value) : Prop := (v = .slice none 0 0 ∧ l = 0 ∧ n = 0) ∨ (v = .slice (some ⟨k, 0, none⟩) l n ∧ l ≤ n)

theorem absS_of {w : World} {es l k : Nat} {v : Value} {vs : List Value} (hc : Came w es v l vs) (n : Nat) (hn : vs.length = n * es) (he : 0 < es) : AbsS k l n (cameV k es l vs v) := by
  rcases hc.isIt with ⟨e1, e2, e3⟩ | ⟨b, off, c, e1, h1, h2, h3, h4⟩
  · subst e1; subst e2; subst e3
    have : n = 0 := by
      rcases Nat.mul_eq_zero.1 (show n * es = 0 from hn.symm) with h | h
      · exact h
      · omega
    exact .inl ⟨rfl, rfl, this⟩
  · subst e1
    have : n = c := by
      rw [hn] at h2
      exact Nat.eq_of_mul_eq_mul_right he h2
    subst this
    exact .inr ⟨rfl, h1⟩

noncomputable def rowObj (es : Nat) (vs : List Value) : AObj := .cells vs.length es true true (T.ofList vs)

theorem mem_open {H : Type} {enc : TypeId × Value → H} {w : World} (n : Nat) (cs : List Value) (y : DataW H × List MemPlace) (h : DataW.trod enc Tryz.prog w 0 (fun _ => true) true n 127 cs = some y) (hl : cs.length = 3) : ∃ el, cs = memC el ∧ memWf el := by
  obtain ⟨y0, y1, y2, m, _, _, h0, h1, h2⟩ := Go.Deep.trod_struct3 Tryz.underlying127 h
  match cs, hl with
  | [c0, c1, c2], _ =>
    have k0 : DataW.trod enc Tryz.prog w 0 (fun _ => true) true m 3 [c0] = some y0 := by simpa [cells3] using h0
    have k1 : DataW.trod enc Tryz.prog w 0 (fun _ => true) true m 3 [c1] = some y1 := by simpa [cells3] using h1
    have k2 : DataW.trod enc Tryz.prog w 0 (fun _ => true) true m 4 [c2] = some y2 := by simpa [cells4] using h2
    obtain ⟨n0, e0, _, w0⟩ := DataW.trod_int Tryz.underlying3 k0
    obtain ⟨n1, e1, _, w1⟩ := DataW.trod_int Tryz.underlying3 k1
    obtain ⟨b, e2, _⟩ := DataW.trod_bool Tryz.underlying4 k2
    injection e0 with e0; injection e1 with e1; injection e2 with e2
    exact ⟨(n0, n1, b), by rw [e0, e1, e2]; rfl, w0, w1⟩

theorem hold_row {s : HS} {k l es : Nat} {n : Nat} {v : Value} {L : List Value} (h : AbsS k l n v) (hL : L.length = n * es) (hs : s.h.get k = some (rowObj es L)) (hk : k < s.c) :
    ∃ x : SV, v = .slice x.a x.n x.c ∧ x.n = l ∧ l ≤ n ∧ Hold s x es (L.take (l * es)) := by
  rcases h with ⟨rfl, rfl, rfl⟩ | ⟨rfl, hl⟩
  · exact ⟨⟨none, 0, 0⟩, rfl, rfl, Nat.le_refl _, by simp, .inl rfl⟩
  · have hle : l * es ≤ n * es := Nat.mul_le_mul_right es hl
    refine ⟨⟨some ⟨k, 0, none⟩, l, n⟩, rfl, rfl, hl, ?_, .inr ⟨k, 0, es, true, true, L, rfl, hs, hk, ?_, by rw [List.drop_zero]⟩⟩
    · rw [List.length_take]; show min (l * es) L.length = l * es; omega
    · show 0 + l * es ≤ L.length; omega

theorem flat_take (ms : List Mem) : ∀ (l : Nat), (ms.flatMap memC).take (l * 3) = (ms.take l).flatMap memC := by
  induction ms with
  | nil => intro l; simp
  | cons m ms ih =>
    intro l
    cases l with
    | zero => simp
    | succ l =>
      rw [List.flatMap_cons, List.take_succ_cons, List.flatMap_cons, ← ih l, show (l + 1) * 3 = (memC m).length + l * 3 by rw [memC_len]; omega, List.take_append, List.take_of_length_le (by omega), Nat.add_sub_cancel_left]


/-- What the executor must answer. -/
def RVPure : Prop := ∀ (client inc lines number dead door : Int) (prev : Nat) (l : Nat) (ms : List (Int × Int × Bool)) (v : Value) (a0 a1 a2 a3 a4 a5 a6 a7 a8 a9 : Int),
  prev < 18446744073709551616 → AbsS 0 l ms.length v →
  ∃ s', callT env13 100000 tbl13 200 (.fn 3) [.agg ⟨[.int .i64 client, .int .i64 inc, .int .i64 lines, .int .i64 number, v, .int .i64 dead, .int .i64 door, .int .u64 (prev : Int)]⟩, .agg ⟨[.int .i64 a0, .int .i64 a1, .int .i64 a2, .int .i64 a3, .int .i64 a4, .int .i64 a5, .int .i64 a6, .int .i64 a7, .int .i64 a8, .int .i64 a9]⟩]
    { h := T.nil.set 0 (rowObj 3 (ms.flatMap memC)), c := 1, log := [] } = some (.bool true, s')

theorem rvPure : RVPure := by
  intro client inc lines number dead door prev l ms v a0 a1 a2 a3 a4 a5 a6 a7 a8 a9 hp h1
  generalize hs : ({ h := T.nil.set 0 (rowObj 3 (ms.flatMap memC)), c := 1, log := [] } : HS) = s
  have e0 : s.h.get 0 = some (rowObj 3 (ms.flatMap memC)) := by rw [← hs, T.get_set, if_pos rfl]
  have ec : s.c = 1 := by rw [← hs]
  obtain ⟨x, rfl, x1, x2, hx⟩ := hold_row h1 (flat_len memC_len ms) e0 (by omega)
  rw [flat_take] at hx
  obtain ⟨r, s', h4, h5⟩ := r3 100000 (by omega) client inc lines number dead door prev hp a0 a1 a2 a3 a4 a5 a6 a7 a8 a9 x (ms.take l) s hx 200 (by omega)
  have h5 : r = true := h5
  exact ⟨s', h4.trans (by rw [h5]; rfl)⟩

/-- The call, out of the executor's answer. -/
theorem rv_call (w : World) (client inc lines number dead door : Int) (prev : Nat) (a0 a1 a2 a3 a4 a5 a6 a7 a8 a9 : Int) (u1 : Value) (l1 : Nat) (ms : List (Int × Int × Bool))
    (hp : prev < 18446744073709551616) (c1 : Came w 3 u1 l1 (ms.flatMap memC)) :
    Calls Tryz.prog 3 #[.agg #[.int .i64 client, .int .i64 inc, .int .i64 lines, .int .i64 number, u1, .int .i64 dead, .int .i64 door, .int .u64 (prev : Int)], .agg #[.int .i64 a0, .int .i64 a1, .int .i64 a2, .int .i64 a3, .int .i64 a4, .int .i64 a5, .int .i64 a6, .int .i64 a7, .int .i64 a8, .int .i64 a9]] w fun e w' => e = .returned (.bool true) ∧ Below w.heap.size w w' := by
  obtain ⟨φ1, l1', g1, r1, q1⟩ := c1.lay (Rel.start w) (k := 0) rfl
  have hlen : ∀ l : List (Int × Int × Bool), (l.flatMap memC).length = l.length * 3 := by
    intro l
    induction l with
    | nil => rfl
    | cons x l ih => rw [List.flatMap_cons, List.length_append, ih, List.length_cons]; simp [memC]; omega
  obtain ⟨s', hs⟩ := rvPure client inc lines number dead door prev l1 ms _ a0 a1 a2 a3 a4 a5 a6 a7 a8 a9 hp (absS_of (k := 0) c1 ms.length (hlen ms) (by omega))
  refine open_runT env13_ok.1 env13_ok.2 tbl13_ok 100000 200 3 _ _ _ s' true w φ1 hs ?_ r1 ?_
  · refine .cons (.agg _ _ (.cons (.int _ _) (.cons (.int _ _) (.cons (.int _ _) (.cons (.int _ _) (.cons q1 (.cons (.int _ _) (.cons (.int _ _) (.cons (.int _ _) .nil))))))))) (.cons (.agg _ _ (.cons (.int _ _) (.cons (.int _ _) (.cons (.int _ _) (.cons (.int _ _) (.cons (.int _ _) (.cons (.int _ _) (.cons (.int _ _) (.cons (.int _ _) (.cons (.int _ _) (.cons (.int _ _) .nil))))))))))) .nil)
  · intro b hb _
    have hb' : 1 ≤ b := hb
    rw [g1 b (.inr (by omega))]

theorem arr8 {cs : Array Value} (h : cs.size = 8) : ∃ x0 x1 x2 x3 x4 x5 x6 x7, cs = #[x0, x1, x2, x3, x4, x5, x6, x7] := by
  obtain ⟨l⟩ := cs
  match l, h with
  | [x0, x1, x2, x3, x4, x5, x6, x7], _ => exact ⟨x0, x1, x2, x3, x4, x5, x6, x7, rfl⟩
theorem arr10 {cs : Array Value} (h : cs.size = 10) : ∃ x0 x1 x2 x3 x4 x5 x6 x7 x8 x9, cs = #[x0, x1, x2, x3, x4, x5, x6, x7, x8, x9] := by
  obtain ⟨l⟩ := cs
  match l, h with
  | [x0, x1, x2, x3, x4, x5, x6, x7, x8, x9], _ => exact ⟨x0, x1, x2, x3, x4, x5, x6, x7, x8, x9, rfl⟩
theorem at_struct {w : World} {r : Reach} {base : Nat} {t : TypeId} {fs : Array Field} {v : Value} (ht : Tryz.prog.underlying t = some (.struct fs)) (h : Value.okWide Tryz.prog w r base t v) : ∃ cs, v = .agg cs ∧ cs.size = Tryz.prog.cellsOf t ∧ Row.okWide Tryz.prog w r base t cs := by
  unfold Value.okWide at h
  rw [ht] at h
  exact h


/-- The job. -/
theorem open_job {H : Type} {enc : TypeId × Value → H} {w : World} {base : Nat} {v : Value} {d : DataW H} {p : List MemPlace} (hv : Value.okWide Tryz.prog w .any base 27 v) (h : DataW.Trod enc Tryz.prog w 0 (fun _ => true) true 27 v d p) :
    ∃ (client inc lines number dead door : Int) (prev : Nat) (u1 : Value) (l1 : Nat) (ms : List (Int × Int × Bool)), v = .agg #[.int .i64 client, .int .i64 inc, .int .i64 lines, .int .i64 number, u1, .int .i64 dead, .int .i64 door, .int .u64 (prev : Int)] ∧ prev < 18446744073709551616 ∧ Came w 3 u1 l1 (ms.flatMap memC) := by
  obtain ⟨cs, rfl, sz, row⟩ := at_struct Tryz.underlying27 hv
  rw [cells27] at sz
  obtain ⟨x0, x1, x2, x3, x4, x5, x6, x7, rfl⟩ := arr8 sz
  obtain ⟨fuel, hf⟩ := h
  obtain ⟨xs, m, _, _, _, hlen, hx⟩ := DataW.trod_struct Tryz.underlying27 hf
  have hlen7 : xs.length = 7 := hlen
  have key : ∀ i, i < 7 → ∃ y, xs[i]? = some y := fun i hi => ⟨_, List.getElem?_eq_getElem (by omega)⟩
  obtain ⟨y0, e0⟩ := key 0 (by omega)
  have h0 := hx 0 _ rfl
  rw [e0] at h0
  obtain ⟨y1, e1⟩ := key 1 (by omega)
  have h1 := hx 1 _ rfl
  rw [e1] at h1
  obtain ⟨y2, e2⟩ := key 2 (by omega)
  have h2 := hx 2 _ rfl
  rw [e2] at h2
  obtain ⟨y3, e3⟩ := key 3 (by omega)
  have h3 := hx 3 _ rfl
  rw [e3] at h3
  obtain ⟨y4, e4⟩ := key 4 (by omega)
  have h4 := hx 4 _ rfl
  rw [e4] at h4
  obtain ⟨y5, e5⟩ := key 5 (by omega)
  have h5 := hx 5 _ rfl
  rw [e5] at h5
  obtain ⟨y6, e6⟩ := key 6 (by omega)
  have h6 := hx 6 _ rfl
  rw [e6] at h6
  have k0 : DataW.trod enc Tryz.prog w 0 (fun _ => true) true m 3 [x0] = some y0 := by simpa [Value.cells, cells3] using h0
  have k1 : DataW.trod enc Tryz.prog w 0 (fun _ => true) true m 3 [x1] = some y1 := by simpa [Value.cells, cells3] using h1
  have k2 : DataW.trod enc Tryz.prog w 0 (fun _ => true) true m 3 [x2] = some y2 := by simpa [Value.cells, cells3] using h2
  have k3 : DataW.trod enc Tryz.prog w 0 (fun _ => true) true m 24 [x3, x4] = some y3 := by simpa [Value.cells, cells24] using h3
  have k4 : DataW.trod enc Tryz.prog w 0 (fun _ => true) true m 3 [x5] = some y4 := by simpa [Value.cells, cells3] using h4
  have k5 : DataW.trod enc Tryz.prog w 0 (fun _ => true) true m 3 [x6] = some y5 := by simpa [Value.cells, cells3] using h5
  have k6 : DataW.trod enc Tryz.prog w 0 (fun _ => true) true m 25 [x7] = some y6 := by simpa [Value.cells, cells25] using h6
  obtain ⟨z0, z1, m', _, _, j0, j1⟩ := trod_struct2 Tryz.underlying24 k3
  have i0 : DataW.trod enc Tryz.prog w 0 (fun _ => true) true m' 3 [x3] = some z0 := by simpa [cells3] using j0
  have i1 : DataW.trod enc Tryz.prog w 0 (fun _ => true) true m' 22 [x4] = some z1 := by simpa [cells22] using j1
  obtain ⟨client, f0, _, _⟩ := DataW.trod_int Tryz.underlying3 k0
  obtain ⟨inc, f1, _, _⟩ := DataW.trod_int Tryz.underlying3 k1
  obtain ⟨lines, f2, _, _⟩ := DataW.trod_int Tryz.underlying3 k2
  obtain ⟨number, f3, _, _⟩ := DataW.trod_int Tryz.underlying3 i0
  obtain ⟨dead, f5, _, _⟩ := DataW.trod_int Tryz.underlying3 k4
  obtain ⟨door, f6, _, _⟩ := DataW.trod_int Tryz.underlying3 k5
  obtain ⟨prev, f7, _, w7⟩ := DataW.trod_int Tryz.underlying25 k6
  injection f0 with f0; injection f1 with f1; injection f2 with f2; injection f3 with f3; injection f5 with f5; injection f6 with f6; injection f7 with f7
  subst f0; subst f1; subst f2; subst f3; subst f5; subst f6; subst f7
  obtain ⟨l1, ms, c1, _, _, _⟩ := came_rows memC memWf Tryz.underlying22 cells127 (fun n cs y hy hl => mem_open n cs y hy hl) (fun el v hv => by
    simp only [memC, List.mem_cons, List.not_mem_nil, or_false] at hv
    rcases hv with hv | hv | hv <;> subst hv <;> rfl) (fun el => rfl) i1 (fun a l c e => row_spot row (i := 4) (a := a) (l := l) (c := c) (by rw [e]; rfl))
  simp only [Lit.wf, Bool.and_eq_true, decide_eq_true_eq] at w7
  obtain ⟨p, rfl⟩ : ∃ p : Nat, prev = (p : Int) := ⟨prev.toNat, by have h : (0 : Int) ≤ prev := w7.1; omega⟩
  have hp : p < 18446744073709551616 := by have h : (p : Int) ≤ 18446744073709551615 := w7.2; omega
  exact ⟨client, inc, lines, number, dead, door, p, x4, l1, ms, rfl, hp, c1⟩

/-- The raw numbers. -/
theorem open_raw {H : Type} {enc : TypeId × Value → H} {w : World} {base : Nat} {v : Value} {d : DataW H} {p : List MemPlace} (hv : Value.okWide Tryz.prog w .any base 29 v) (h : DataW.Trod enc Tryz.prog w 0 (fun _ => true) true 29 v d p) :
    ∃ (a0 a1 a2 a3 a4 a5 a6 a7 a8 a9 : Int), v = .agg #[.int .i64 a0, .int .i64 a1, .int .i64 a2, .int .i64 a3, .int .i64 a4, .int .i64 a5, .int .i64 a6, .int .i64 a7, .int .i64 a8, .int .i64 a9] := by
  obtain ⟨cs, rfl, sz, row⟩ := at_struct Tryz.underlying29 hv
  rw [cells29] at sz
  obtain ⟨x0, x1, x2, x3, x4, x5, x6, x7, x8, x9, rfl⟩ := arr10 sz
  obtain ⟨fuel, hf⟩ := h
  obtain ⟨xs, m, _, _, _, hlen, hx⟩ := DataW.trod_struct Tryz.underlying29 hf
  have hlen10 : xs.length = 10 := hlen
  have key : ∀ i, i < 10 → ∃ y, xs[i]? = some y := fun i hi => ⟨_, List.getElem?_eq_getElem (by omega)⟩
  obtain ⟨y0, e0⟩ := key 0 (by omega)
  have h0 := hx 0 _ rfl
  rw [e0] at h0
  obtain ⟨y1, e1⟩ := key 1 (by omega)
  have h1 := hx 1 _ rfl
  rw [e1] at h1
  obtain ⟨y2, e2⟩ := key 2 (by omega)
  have h2 := hx 2 _ rfl
  rw [e2] at h2
  obtain ⟨y3, e3⟩ := key 3 (by omega)
  have h3 := hx 3 _ rfl
  rw [e3] at h3
  obtain ⟨y4, e4⟩ := key 4 (by omega)
  have h4 := hx 4 _ rfl
  rw [e4] at h4
  obtain ⟨y5, e5⟩ := key 5 (by omega)
  have h5 := hx 5 _ rfl
  rw [e5] at h5
  obtain ⟨y6, e6⟩ := key 6 (by omega)
  have h6 := hx 6 _ rfl
  rw [e6] at h6
  obtain ⟨y7, e7⟩ := key 7 (by omega)
  have h7 := hx 7 _ rfl
  rw [e7] at h7
  obtain ⟨y8, e8⟩ := key 8 (by omega)
  have h8 := hx 8 _ rfl
  rw [e8] at h8
  obtain ⟨y9, e9⟩ := key 9 (by omega)
  have h9 := hx 9 _ rfl
  rw [e9] at h9
  have k0 : DataW.trod enc Tryz.prog w 0 (fun _ => true) true m 3 [x0] = some y0 := by simpa [Value.cells, cells3] using h0
  have k1 : DataW.trod enc Tryz.prog w 0 (fun _ => true) true m 3 [x1] = some y1 := by simpa [Value.cells, cells3] using h1
  have k2 : DataW.trod enc Tryz.prog w 0 (fun _ => true) true m 3 [x2] = some y2 := by simpa [Value.cells, cells3] using h2
  have k3 : DataW.trod enc Tryz.prog w 0 (fun _ => true) true m 3 [x3] = some y3 := by simpa [Value.cells, cells3] using h3
  have k4 : DataW.trod enc Tryz.prog w 0 (fun _ => true) true m 3 [x4] = some y4 := by simpa [Value.cells, cells3] using h4
  have k5 : DataW.trod enc Tryz.prog w 0 (fun _ => true) true m 3 [x5] = some y5 := by simpa [Value.cells, cells3] using h5
  have k6 : DataW.trod enc Tryz.prog w 0 (fun _ => true) true m 3 [x6] = some y6 := by simpa [Value.cells, cells3] using h6
  have k7 : DataW.trod enc Tryz.prog w 0 (fun _ => true) true m 3 [x7] = some y7 := by simpa [Value.cells, cells3] using h7
  have k8 : DataW.trod enc Tryz.prog w 0 (fun _ => true) true m 3 [x8] = some y8 := by simpa [Value.cells, cells3] using h8
  have k9 : DataW.trod enc Tryz.prog w 0 (fun _ => true) true m 3 [x9] = some y9 := by simpa [Value.cells, cells3] using h9
  obtain ⟨a0, f0, _, _⟩ := DataW.trod_int Tryz.underlying3 k0
  injection f0 with f0
  subst f0
  obtain ⟨a1, f1, _, _⟩ := DataW.trod_int Tryz.underlying3 k1
  injection f1 with f1
  subst f1
  obtain ⟨a2, f2, _, _⟩ := DataW.trod_int Tryz.underlying3 k2
  injection f2 with f2
  subst f2
  obtain ⟨a3, f3, _, _⟩ := DataW.trod_int Tryz.underlying3 k3
  injection f3 with f3
  subst f3
  obtain ⟨a4, f4, _, _⟩ := DataW.trod_int Tryz.underlying3 k4
  injection f4 with f4
  subst f4
  obtain ⟨a5, f5, _, _⟩ := DataW.trod_int Tryz.underlying3 k5
  injection f5 with f5
  subst f5
  obtain ⟨a6, f6, _, _⟩ := DataW.trod_int Tryz.underlying3 k6
  injection f6 with f6
  subst f6
  obtain ⟨a7, f7, _, _⟩ := DataW.trod_int Tryz.underlying3 k7
  injection f7 with f7
  subst f7
  obtain ⟨a8, f8, _, _⟩ := DataW.trod_int Tryz.underlying3 k8
  injection f8 with f8
  subst f8
  obtain ⟨a9, f9, _, _⟩ := DataW.trod_int Tryz.underlying3 k9
  injection f9 with f9
  subst f9
  exact ⟨a0, a1, a2, a3, a4, a5, a6, a7, a8, a9, rfl⟩

theorem rv_lifted (os : Os) (started : os.Started) (H : Type) (enc : TypeId × Value → H) :
    ReturnsInHanded {} Tryz.checked os 3 .any (Rows.recoveryValidSpec.pre6 enc Tryz.prog Tryz.f3 Rows.recoveryValidRow.domain false) (Rows.recoveryValidSpec.post enc Tryz.prog Tryz.f3 false true false false) := by
  refine returnsInHanded_of_change (C := Tryz.checked) own13 started (by kernel_rfl) Tryz.func3
    (ChangeSpec.witness6 (enc := enc) (C := Tryz.checked) false ⟨#[], #[.agg #[.int .i64 0, .int .i64 0, .int .i64 0, .int .i64 0, .slice none 0 0, .int .i64 0, .int .i64 0, .int .u64 0], .agg #[.int .i64 0, .int .i64 0, .int .i64 0, .int .i64 0, .int .i64 0, .int .i64 0, .int .i64 0, .int .i64 0, .int .i64 0, .int .i64 0]], []⟩ 8 (by kernel_rfl) (by kernel_rfl) (by kernel_rfl) (by kernel_rfl)) ?_
  intro W base args ds gs before hval0 hW hcnd _
  have hval : ∀ (j : Nat) t v, Tryz.f3.params[j]? = some t → args[j]? = some v → Value.okWide Tryz.prog W .any base t v := hval0
  have hW' := hW
  obtain ⟨p, q, hA0, hV, rfl, hfz, hnd⟩ := hW
  have hA : DataW.TrodAll enc Tryz.prog W 0 (fun _ => true) true Tryz.f3.params.toList args.toList ds p := hA0
  rw [Tryz.params3] at hA hval
  obtain ⟨v0, vs0, d0, ds0, p0, q0, hargs, rfl, rfl, h0, r0⟩ := trodAll_cons hA
  obtain ⟨v1, vs1, d1, ds1, p1, q1, rfl, rfl, rfl, h1, r1⟩ := trodAll_cons r0
  obtain ⟨rfl, rfl, rfl⟩ := trodAll_nil r1
  obtain rfl : args = #[v0, v1] := by cases args; simp_all
  obtain ⟨rfl, rfl⟩ := trodVars_none hV
  have k0 := h0
  have k1 := h1
  have lt0 : ∀ x ∈ p0, x.block < W.heap.size := by obtain ⟨m, hm⟩ := k0; exact DataW.trod_lt m _ _ _ hm
  have lt1 : ∀ x ∈ p1, x.block < W.heap.size := by obtain ⟨m, hm⟩ := k1; exact DataW.trod_lt m _ _ _ hm
  obtain ⟨client, inc, lines, number, dead, door, prev, u1, l1, ms, rfl, hp, b8⟩ := open_job (hval 0 27 v0 rfl rfl) h0
  obtain ⟨a0, a1, a2, a3, a4, a5, a6, a7, a8, a9, rfl⟩ := open_raw (hval 1 29 v1 rfl rfl) h1
  refine (rv_call W client inc lines number dead door prev a0 a1 a2 a3 a4 a5 a6 a7 a8 a9 u1 l1 ms hp b8).mono fun e W' ⟨he, bel⟩ => ?_
  subst he
  exact ⟨_, rfl, _, _, _, [], _, [], hW', trodAll_mk1 (shut_bool Tryz.underlying4 _), (trodAll_cons_mk (Below.trod laidOut13 (by kernel_rfl) (of_decide_eq_true (by kernel_rfl)) k0 bel lt0) (trodAll_cons_mk (Below.trod laidOut13 (by kernel_rfl) (of_decide_eq_true (by kernel_rfl)) k1 bel lt1) trodAll_mk0)), rfl, bel.frame _, fun h => by cases h⟩

/-- The given statement: bodegalaw13.RecoveryValid returns true for every input. -/
theorem recoveryValid : Rows.RecoveryValidSaid :=
  OpenClaim.holds_of_wide 3 Tryz.f3 rfl rfl rfl rfl rfl rfl rfl ⟨rfl, rfl, rfl, rfl, rfl⟩ rfl rfl rfl rfl rfl (by kernel_rfl) Tryz.func3 rvFacts
    (of_decide_eq_true (by kernel_rfl)) (by unfold Func.isWrapper; first | (rw [if_pos (by decide +kernel)]; kernel_rfl) | (rw [if_neg (by decide +kernel)]; exact ⟨rfl, rfl⟩))
    (fun os started H enc _ => rv_lifted os started H enc)
end Go.Proofs.YtifgpgahbbbkpaaGreat
