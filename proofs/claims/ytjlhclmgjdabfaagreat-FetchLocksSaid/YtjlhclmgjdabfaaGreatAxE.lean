/- The abstract executor: its tables, out of a program.
Conditions: none. -/
import Derived.ChangeKeysEq
import Derived.Laws.StructEq
import Derived.Test.YtjlhclmgjdabfaaGreatAxY
namespace Go.Ax
set_option linter.unusedVariables false
set_option linter.unusedSimpArgs false
set_option linter.unusedSectionVars false
open Go.RowKit (Below)

theorem ofPairs_mem {α : Type} : ∀ (l : List (Nat × α)) (t : Nat) (x : α), (T.ofPairs l).get t = some x → (t, x) ∈ l
  | [], t, x, h => by cases h
  | p :: l, t, x, h => by
    have h' : ((T.ofPairs l).set p.1 p.2).get t = some x := h
    rw [T.get_set] at h'
    by_cases e : t = p.1
    · rw [if_pos e] at h'; injection h' with h'
      subst e; subst h'; exact List.mem_cons_self
    · rw [if_neg e] at h'; exact List.mem_cons_of_mem _ (ofPairs_mem l t x h')

noncomputable def memB (t : Nat) : List Nat → Bool
  | [] => false
  | x :: l => match Nat.beq t x with
    | true => true
    | false => memB t l

theorem memB_iff (t : Nat) : ∀ (l : List Nat), memB t l = true → t ∈ l
  | [], h => by cases h
  | x :: l, h => by
    unfold memB at h
    rw [T.nbeq] at h
    by_cases e : t = x
    · subst e; exact List.mem_cons_self
    · rw [decide_eq_false e] at h; exact List.mem_cons_of_mem _ (memB_iff t l h)

noncomputable def mkTI (fl : Bool) (d : TypeDesc) (i : TypeInfo) : Option Value → Option TI
  | some z => some { desc := d, size := i.size, bytes := i.bytes, zero := cellsOf z, flat := fl }
  | none => none
noncomputable def tiOf (P : Program) (fl : Bool) (t : Nat) : Option TI := match P.underlying t with
  | some d => match P.info? t with
    | some i => mkTI fl d i i.zero
    | none => none
  | none => none

noncomputable def consT (t : Nat) (o : Option TI) (l : List (Nat × TI)) : List (Nat × TI) := match o with
  | some ti => (t, ti) :: l
  | none => l
noncomputable def tyL (P : Program) (flats : List Nat) : List Nat → List (Nat × TI)
  | [] => []
  | t :: l => consT t (tiOf P (memB t flats) t) (tyL P flats l)

noncomputable def allConst : List Value → Bool
  | [] => true
  | v :: l => match constOK1 v with
    | true => allConst l
    | false => false
theorem allConst_spec : ∀ (l : List Value), allConst l = true → ∀ v ∈ l, constOK1 v = true
  | [], _, v, hv => by cases hv
  | x :: l, h, v, hv => by
    unfold allConst at h
    cases hx : constOK1 x with
    | false => rw [hx] at h; cases h
    | true =>
      rw [hx] at h
      rcases List.mem_cons.1 hv with e | hv
      · subst e; exact hx
      · exact allConst_spec l h v hv

noncomputable def isAggV : Option Value → Bool
  | some (.agg _) => true
  | _ => false
noncomputable def tiB (ti : TI) (z : Option Value) : Bool := match Nat.beq (lenL ti.zero) ti.size with
  | true => match allConst ti.zero with
    | true => match isAggD ti.desc with
      | true => isAggV z
      | false => match isAggV z with
        | true => false
        | false => Nat.beq ti.size 1
    | false => false
  | false => false
noncomputable def tyOneB (P : Program) (t : Nat) : Bool := match tiOf P false t with
  | some ti => match P.info? t with
    | some i => tiB ti i.zero
    | none => false
  | none => true
noncomputable def tyAllB (P : Program) : List Nat → Bool
  | [] => true
  | t :: l => match tyOneB P t with
    | true => tyAllB P l
    | false => false

theorem tyL_mem (P : Program) (flats : List Nat) : ∀ (l : List Nat) (t : Nat) (ti : TI), (t, ti) ∈ tyL P flats l → t ∈ l ∧ tiOf P (memB t flats) t = some ti
  | [], t, ti, h => by cases h
  | x :: l, t, ti, h => by
    unfold tyL at h
    cases hx : tiOf P (memB x flats) x with
    | none => rw [hx] at h; obtain ⟨h1, h2⟩ := tyL_mem P flats l t ti h; exact ⟨List.mem_cons_of_mem _ h1, h2⟩
    | some y =>
      rw [hx] at h
      rcases List.mem_cons.1 h with h | h
      · injection h with h1 h2; subst h1; subst h2; exact ⟨List.mem_cons_self, hx⟩
      · obtain ⟨h1, h2⟩ := tyL_mem P flats l t ti h; exact ⟨List.mem_cons_of_mem _ h1, h2⟩

theorem tyAllB_mem (P : Program) : ∀ (l : List Nat), tyAllB P l = true → ∀ t ∈ l, tyOneB P t = true
  | [], _, t, ht => by cases ht
  | x :: l, h, t, ht => by
    unfold tyAllB at h
    cases hx : tyOneB P x with
    | false => rw [hx] at h; cases h
    | true =>
      rw [hx] at h
      rcases List.mem_cons.1 ht with e | ht
      · subst e; exact hx
      · exact tyAllB_mem P l h t ht

/-- What is asked of a type whose values are compared cell by cell. -/
def FlatOK (P : Program) (t : Nat) (zero : List Value) : Prop :=
  P.eqGuardType P.depth t = false ∧ ∀ xs ys b (w : World), cellsEq zero xs ys = some b → (Op.equal t (.agg ⟨xs⟩) (.agg ⟨ys⟩)).run P w = .ok b w

theorem cells_toList (z : Value) : z.cells.toList = cellsOf z := by cases z <;> rfl

theorem tyOK_of (P : Program) (flats ts : List Nat) (hB : tyAllB P ts = true) (hF : ∀ t ∈ flats, ∀ ti, tiOf P true t = some ti → FlatOK P t ti.zero) (t : Nat) (ti : TI) (h : (t, ti) ∈ tyL P flats ts) : TyOK P t ti := by
  obtain ⟨h1, h2⟩ := tyL_mem P flats ts t ti h
  have h3 := tyAllB_mem P ts hB t h1
  have hmk : ∀ fl, ∃ d i z, P.underlying t = some d ∧ P.info? t = some i ∧ i.zero = some z ∧ tiOf P fl t = some { desc := d, size := i.size, bytes := i.bytes, zero := cellsOf z, flat := fl } := by
    unfold tiOf at h2
    cases hd : P.underlying t with
    | none => rw [hd] at h2; cases h2
    | some d =>
      rw [hd] at h2
      cases hi : P.info? t with
      | none => rw [hi] at h2; cases h2
      | some i =>
        rw [hi] at h2
        cases hz : i.zero with
        | none => simp only [hz] at h2; cases h2
        | some z => intro fl; exact ⟨d, i, z, rfl, rfl, hz, by unfold tiOf; rw [hd, hi]; simp only [hz]; rfl⟩
  obtain ⟨d, i, z, k1, k2, k3, k4⟩ := hmk (memB t flats)
  obtain ⟨d', i', z', j1, j2, j3, j4⟩ := hmk false
  rw [k1] at j1; injection j1 with j1; subst j1
  rw [k2] at j2; injection j2 with j2; subst j2
  rw [k3] at j3; injection j3 with j3; subst j3
  unfold tyOneB at h3
  rw [j4] at h3
  simp only [k2, k3] at h3
  rw [k4] at h2; injection h2 with h2; subst h2
  unfold tiB at h3
  simp only at h3
  rw [T.nbeq, lenL_eq] at h3
  by_cases e1 : (cellsOf z).length = i.size
  · rw [decide_eq_true e1] at h3
    cases e2 : allConst (cellsOf z) with
    | false => rw [e2] at h3; cases h3
    | true =>
      rw [e2] at h3
      refine ⟨k1, ⟨i, z, k2, rfl, rfl, k3, cells_toList z, fun ha => ?_, fun ha => ?_⟩, e1, allConst_spec _ e2, fun ha => ?_, fun hf => ?_⟩
      · simp only at ha
        rw [ha] at h3
        cases z with
        | agg cs => exact ⟨cs, rfl⟩
        | _ => cases h3
      · simp only at ha
        rw [ha] at h3
        intro cs e; subst e
        cases h3
      · simp only at ha
        rw [ha] at h3
        cases hz : isAggV (some z) with
        | true => rw [hz] at h3; cases h3
        | false => rw [hz] at h3; rw [T.nbeq] at h3; exact of_decide_eq_true h3
      · simp only at hf
        obtain ⟨d2, i2, z2, q1, q2, q3, q4⟩ := hmk true
        rw [k1] at q1; injection q1 with q1; subst q1
        rw [k2] at q2; injection q2 with q2; subst q2
        rw [k3] at q3; injection q3 with q3; subst q3
        have hx := hF t (memB_iff _ _ hf) _ q4
        exact hx
  · rw [decide_eq_false e1] at h3; cases h3

/-! ### Functions -/

theorem callFunc_enter {P : Program} {f : FuncId} {fn : Func} (hf : P.funcs[f]? = some fn) (hname : (fn.name == "runtime.NumGoroutine") = false) (hb : fn.body.isNone = false) (args : Array Value) (w : World) :
    (callFunc f args).run P w = .ok (.enter f args) w := by
  unfold callFunc
  rw [Sem.run_bind]
  show Sem.run P (match P.funcs[f]? with | none => _ | some fn => _) w = _
  rw [hf]
  simp only [hname, hb, Bool.false_eq_true, if_false]
  rfl

noncomputable def consF (f : Nat) (o : Option Func) (l : List (Nat × Func)) : List (Nat × Func) := match o with
  | some fn => (f, fn) :: l
  | none => l
noncomputable def fnL (P : Program) : List Nat → List (Nat × Func)
  | [] => []
  | f :: l => consF f (P.funcs[f]?) (fnL P l)

noncomputable def fnOneB (fn : Func) : Bool := match fn.body with
  | none => false
  | some c => match codeLt fn.ntmps c with
    | true => match okC c with
      | true => !(fn.name == "runtime.NumGoroutine")
      | false => false
    | false => false
noncomputable def fnAllB (P : Program) : List Nat → Bool
  | [] => true
  | f :: l => match P.funcs[f]? with
    | none => false
    | some fn => match fnOneB fn with
      | true => fnAllB P l
      | false => false

theorem fnL_mem (P : Program) : ∀ (l : List Nat) (f : Nat) (fn : Func), (f, fn) ∈ fnL P l → f ∈ l ∧ P.funcs[f]? = some fn
  | [], f, fn, h => by cases h
  | x :: l, f, fn, h => by
    unfold fnL at h
    cases hx : P.funcs[x]? with
    | none => rw [hx] at h; obtain ⟨h1, h2⟩ := fnL_mem P l f fn h; exact ⟨List.mem_cons_of_mem _ h1, h2⟩
    | some y =>
      rw [hx] at h
      rcases List.mem_cons.1 h with h | h
      · injection h with h1 h2; subst h1; subst h2; exact ⟨List.mem_cons_self, hx⟩
      · obtain ⟨h1, h2⟩ := fnL_mem P l f fn h; exact ⟨List.mem_cons_of_mem _ h1, h2⟩
theorem fnAllB_mem (P : Program) : ∀ (l : List Nat), fnAllB P l = true → ∀ f ∈ l, ∀ fn, P.funcs[f]? = some fn → fnOneB fn = true
  | [], _, f, hf => by cases hf
  | x :: l, h, f, hf => by
    intro fn hfn
    unfold fnAllB at h
    cases hx : P.funcs[x]? with
    | none => rw [hx] at h; cases h
    | some y =>
      rw [hx] at h
      simp only at h
      cases hy : fnOneB y with
      | false => rw [hy] at h; cases h
      | true =>
        rw [hy] at h
        rcases List.mem_cons.1 hf with e | hf
        · subst e; rw [hx] at hfn; injection hfn with hfn; subst hfn; exact hy
        · exact fnAllB_mem P l h f hf fn hfn

theorem fnOneB_spec {fn : Func} (h : fnOneB fn = true) : (fn.name == "runtime.NumGoroutine") = false ∧ ∃ c, fn.body = some c ∧ codeLt fn.ntmps c = true ∧ okC c = true := by
  unfold fnOneB at h
  cases hb : fn.body with
  | none => rw [hb] at h; cases h
  | some c =>
    rw [hb] at h
    simp only at h
    cases h1 : codeLt fn.ntmps c with
    | false => rw [h1] at h; cases h
    | true =>
      rw [h1] at h
      simp only at h
      cases h2 : okC c with
      | false => rw [h2] at h; cases h
      | true =>
        rw [h2] at h
        simp only [Bool.not_eq_true'] at h
        exact ⟨h, c, rfl, h1, h2⟩

/-- The executor's tables out of a program. -/
noncomputable def envOf (P : Program) (flats ts fs : List Nat) : Env := { ty := T.ofPairs (tyL P flats ts), fn := T.ofPairs (fnL P fs) }

theorem envOK_of (P : Program) (flats ts fs : List Nat) (hB : tyAllB P ts = true) (hF : ∀ t ∈ flats, ∀ ti, tiOf P true t = some ti → FlatOK P t ti.zero) (hfn : fnAllB P fs = true) (hm : P.follows .mixedOrders = true) :
    EnvOK P (envOf P flats ts fs) ∧ EnvPlain (envOf P flats ts fs) := by
  have key : ∀ f fn, (T.ofPairs (fnL P fs)).get f = some fn → P.funcs[f]? = some fn ∧ fnOneB fn = true := fun f fn h => by
    obtain ⟨h1, h2⟩ := fnL_mem P fs f fn (ofPairs_mem _ _ _ h)
    exact ⟨h2, fnAllB_mem P fs hfn f h1 fn h2⟩
  refine ⟨⟨fun t ti h => tyOK_of P flats ts hB hF t ti (ofPairs_mem _ _ _ h), fun f fn h => ?_, hm⟩, fun f fn c h hc => ?_⟩
  · obtain ⟨h1, h2⟩ := key f fn h
    obtain ⟨h3, c, h4, h5, h6⟩ := fnOneB_spec h2
    exact ⟨h1, fun args w => callFunc_enter h1 h3 (by rw [h4]; rfl) args w, fun c' hc' => by rw [h4] at hc'; injection hc' with hc'; subst hc'; exact h5⟩
  · obtain ⟨h1, h2⟩ := key f fn h
    obtain ⟨h3, c', h4, h5, h6⟩ := fnOneB_spec h2
    rw [hc] at h4; injection h4 with h4; subst h4; exact h6
end Go.Ax
