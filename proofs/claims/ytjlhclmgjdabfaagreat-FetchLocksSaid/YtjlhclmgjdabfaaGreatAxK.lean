/- The executor asks no more of a call than its answer; an evaluator of shallow code.
Conditions: none. -/
import Derived.Test.YtjlhclmgjdabfaaGreatAxV6
namespace Go.Ax
set_option linter.unusedSectionVars false
set_option linter.unusedVariables false
set_option linter.unusedSimpArgs false

/-- Whatever the first one answers, the second one answers. -/
def MLe {α : Type} (m m' : M α) : Prop := ∀ s r, m s = some r → m' s = some r
def CLe (c c' : CallH) : Prop := ∀ t args, MLe (c t args) (c' t args)

theorem MLe.refl {α : Type} (m : M α) : MLe m m := fun _ _ h => h
theorem MLe.trans {α : Type} {a b c : M α} (h : MLe a b) (h' : MLe b c) : MLe a c := fun s r e => h' s r (h s r e)
theorem MLe.bind {α β : Type} {m m' : M α} {k k' : α → M β} (h : MLe m m') (h' : ∀ a, MLe (k a) (k' a)) : MLe (M.bind m k) (M.bind m' k') := fun s r e => by
  obtain ⟨a, s1, e1, e2⟩ := bind_some (show M.bind m k s = some (r.1, r.2) from e)
  exact bind_of (h _ _ e1) (h' _ _ _ e2)
theorem MLe.withO {α β : Type} {o : Option α} {k k' : α → M β} (h : ∀ a, MLe (k a) (k' a)) : MLe (M.withO o k) (M.withO o k') := by
  cases o with
  | none => exact MLe.refl _
  | some a => exact h a

section
variable {env : Env} {c c' : CallH} (hc : CLe c c')
include hc

theorem mle_callV (args : List Value) (f : Value) : MLe (callV c args f) (callV c' args f) := by
  unfold callV
  split
  · exact hc _ _
  · exact hc _ _
  · exact MLe.refl _
theorem mle_execOp (o : Op) (tm : T Value) : MLe (execOp o env c tm) (execOp o env c' tm) := by
  cases o with
  | call x =>
    show MLe (M.withO (evs x.args.toList tm) (calleeK x.callee x.argTypes env c tm)) (M.withO (evs x.args.toList tm) (calleeK x.callee x.argTypes env c' tm))
    refine MLe.withO fun args => ?_
    unfold calleeK
    cases x.callee with
    | value f => exact MLe.withO fun f => mle_callV hc _ _
    | invoke _ _ => exact MLe.refl _
    | builtin b => exact MLe.refl _
  | _ => exact MLe.refl _
theorem mle_stepOp (ops : List Oper) (o : Oper) (tm : T Value) : MLe (stepOp ops o env c tm) (stepOp ops o env c' tm) := by
  unfold stepOp
  split
  · exact (mle_execOp hc _ _).bind fun _ => MLe.refl _
  · exact MLe.refl _
theorem mle_execOps (ops : List Oper) : ∀ (l : List Oper) (tm : T Value), MLe (execOps ops l env c tm) (execOps ops l env c' tm)
  | [], tm => MLe.refl _
  | o :: l, tm => by
    rw [execOps_cons, execOps_cons]
    exact (mle_stepOp hc _ _ _).bind fun tm => mle_execOps ops l tm
theorem mle_runW (i : Nat) (recs : Recs) {m m' : M (T Value)} (h : MLe m m') : MLe (runW i recs m) (runW i recs m') := by
  rw [runW_op, runW_op]
  exact (MLe.refl _).bind fun q => h.bind fun tm => MLe.refl _
theorem mle_stepPE (ops : List Oper) (e : PE) (recs : Recs) (tm : T Value) : MLe (stepPE ops e env c recs tm) (stepPE ops e env c' recs tm) := by
  have hp : MLe (mapM (fun tm => (tm, recs)) (stepOp ops e.o env c tm)) (mapM (fun tm => (tm, recs)) (stepOp ops e.o env c' tm)) := (mle_stepOp hc _ _ _).bind fun _ => MLe.refl _
  unfold stepPE
  cases e.cls with
  | writer => exact mle_runW hc _ _ (mle_stepOp hc _ _ _)
  | alloc => exact mle_runW hc _ _ (mle_stepOp hc _ _ _)
  | pure => exact hp
  | load =>
    show MLe (match wantedG ops tm e.o.guard with
      | true => match loadOK e.o.op e.m tm recs with
        | true => mapM (fun tm => (tm, recs)) (stepOp ops e.o env c tm)
        | false => M.fail
      | false => mapM (fun tm => (tm, recs)) (stepOp ops e.o env c tm)) _
    cases wantedG ops tm e.o.guard with
    | false => exact hp
    | true =>
      cases hl : loadOK e.o.op e.m tm recs with
      | true => simp only [hl]; exact hp
      | false => simp only [hl]; exact MLe.refl _
theorem mle_execPEs (ops : List Oper) : ∀ (l : List PE) (q : T Value × Recs), MLe (execPEs ops l env c q) (execPEs ops l env c' q)
  | [], q => MLe.refl _
  | e :: l, q => by
    rw [execPEs_cons, execPEs_cons]
    exact (mle_stepPE hc _ _ _ _).bind fun q => mle_execPEs ops l q
theorem mle_region (ops : Array Oper) (draw : Bool) (lf : Nat) (tm : T Value) : MLe (sRegion ops draw env c lf tm) (sRegion ops draw env c' lf tm) := by
  cases draw with
  | false => exact (mle_execOps hc _ _ _).bind fun _ => MLe.refl _
  | true =>
    refine MLe.bind (m := drawK ops.toList (planOf env ops.toList) (okPlan env ops.toList (planOf env ops.toList)) env c tm) (m' := drawK ops.toList (planOf env ops.toList) (okPlan env ops.toList (planOf env ops.toList)) env c' tm) ?_ fun _ => MLe.refl _
    cases okPlan env ops.toList (planOf env ops.toList) with
    | false => exact MLe.refl _
    | true => exact mle_execPEs hc _ _ _
theorem mle_code (lf : Nat) (x : Code) : ∀ (tm : T Value), MLe (execC x env c lf tm) (execC x env c' lf tm) := by
  induction x with
  | skip => intro tm; exact MLe.refl _
  | ret => intro tm; exact MLe.refl _
  | exit id => intro tm; exact MLe.refl _
  | region id ops d => intro tm; exact mle_region hc _ _ lf _
  | seq a b iha ihb =>
    intro tm
    refine (iha tm).bind fun r => ?_
    obtain ⟨e, tm⟩ := r
    cases e with
    | normal => exact ihb tm
    | exit i => exact MLe.refl _
    | ret => exact MLe.refl _
  | cond v a b iha ihb =>
    intro tm
    show MLe (condK (execC a) (execC b) (ev v tm) env c lf tm) (condK (execC a) (execC b) (ev v tm) env c' lf tm)
    cases ev v tm with
    | none => exact MLe.refl _
    | some v => cases v with
      | bool x => cases x with
        | true => exact iha tm
        | false => exact ihb tm
      | _ => exact MLe.refl _
  | block id a iha => intro tm; exact (iha tm).bind fun _ => MLe.refl _
  | loop a iha =>
    intro tm
    show MLe (iter (execC a env c lf) lf tm) (iter (execC a env c' lf) lf tm)
    have key : ∀ n tm, MLe (iter (execC a env c lf) n tm) (iter (execC a env c' lf) n tm) := by
      intro n
      induction n with
      | zero => intro tm; exact MLe.refl _
      | succ n ih =>
        intro tm
        rw [iter_succ, iter_succ]
        refine (iha tm).bind fun r => ?_
        obtain ⟨e, tm⟩ := r
        cases e with
        | normal => exact ih tm
        | exit i => exact MLe.refl _
        | ret => exact MLe.refl _
    exact key lf tm
  | rangeFunc f ps a b _ _ =>
    intro tm
    refine MLe.withO fun f => (MLe.refl _).bind fun l => MLe.bind ?_ fun _ => MLe.refl _
    unfold callFn
    split
    · exact hc _ _
    · exact MLe.refl _
  | scope a _ => intro tm; exact MLe.refl _
  | label l => intro tm; exact MLe.refl _
  | goto l => intro tm; exact MLe.refl _
  | refuse w => intro tm; exact MLe.refl _
theorem mle_runFn (lf : Nat) (args : List Value) (fn : Func) : MLe (runFn env lf c args fn) (runFn env lf c' args fn) := by
  unfold runFn
  cases fn.body with
  | none => exact MLe.refl _
  | some x =>
    show MLe (match Nat.ble (lenL args) fn.ntmps with | true => _ | false => _) (match Nat.ble (lenL args) fn.ntmps with | true => _ | false => _)
    cases Nat.ble (lenL args) fn.ntmps with
    | false => exact MLe.refl _
    | true => exact (mle_code hc lf x _).bind fun _ => MLe.refl _
theorem mle_callK (lf : Nat) : CLe (callK env lf c) (callK env lf c') := by
  intro t args
  cases t with
  | fn f => exact MLe.withO fun fn => mle_runFn hc lf args fn
  | yield l =>
    refine (MLe.refl _).bind fun o => ?_
    unfold runRound
    cases o with
    | cells a b d e f => exact MLe.refl _
    | map => exact MLe.refl _
    | iter => exact MLe.refl _
    | loop r =>
      refine MLe.withO fun tm => (mle_code hc lf r.assign tm).bind fun q => ?_
      obtain ⟨e, tm⟩ := q
      cases e with
      | normal =>
        refine (MLe.refl _).bind fun o => ?_
        unfold roundR
        cases o with
        | cells a b d e f => exact MLe.refl _
        | map => exact MLe.refl _
        | iter => exact MLe.refl _
        | loop r' => exact (MLe.refl _).bind fun _ => (mle_code hc lf r.body tm).bind fun _ => MLe.refl _
      | exit i => exact MLe.refl _
      | ret => exact MLe.refl _
end

theorem callN_mono (env : Env) (lf : Nat) : ∀ n, CLe (callN env lf n) (callN env lf (n + 1))
  | 0 => fun t args s r h => by cases h
  | n + 1 => mle_callK (callN_mono env lf n) lf
theorem callN_le (env : Env) (lf n : Nat) : ∀ k, CLe (callN env lf n) (callN env lf (n + k))
  | 0 => fun t args => MLe.refl _
  | k + 1 => fun t args => (callN_le env lf n k t args).trans (callN_mono env lf (n + k) t args)

/-! ### The evaluator -/

/-- A function's shallow code. -/
structure Ent (env : Env) (shT : Nat → Option S3) where
  f : Nat
  fn : Func
  ss : List S2
  g : CallH → Nat → S2.SemL ss → Tr Value
  hf : env.fn.get f = some fn
  h : ∀ call lf x, gFn shT env call lf (S2.mkL ss x) fn = g call lf x

abbrev W := CallH → Nat → List Value → M Value
noncomputable def entW {env : Env} {shT : Nat → Option S3} (e : Ent env shT) : W := fun call lf args => M.withO (S2.unL e.ss args) fun x => (e.g call lf x).run
noncomputable def orW (o : Option W) (call : CallH) (lf : Nat) (args : List Value) (m : M Value) : M Value := match o with
  | some w => w call lf args
  | none => m
noncomputable def callD (env : Env) (lf : Nat) (tab : T W) (n : Nat) : CallH :=
  Nat.rec (motive := fun _ => CallH) (fun _ _ => M.fail) (fun _ r t args => match t with
    | .fn f => orW (tab.get f) r lf args (callK env lf r (.fn f) args)
    | .yield l => callK env lf r (.yield l) args) n

/-- What a table's entry answers, the function answers, at depth K at most if it does without the calls. -/
def TabOK (env : Env) (lf K : Nat) (tab : T W) : Prop := ∀ f w, tab.get f = some w →
  (∀ call args, MLe (w call lf args) (callK env lf call (.fn f) args)) ∨ (∀ call args, MLe (w call lf args) (callN env lf K (.fn f) args))

theorem entW_ok {env : Env} {shT : Nat → Option S3} (lf : Nat) (e : Ent env shT) (call : CallH) (args : List Value) : MLe (entW e call lf args) (callK env lf call (.fn e.f) args) := by
  intro s r h
  obtain ⟨x, h1, h2⟩ := withO_some (show M.withO (S2.unL e.ss args) _ s = some (r.1, r.2) from h)
  have ha := S2.unL_mk h1
  subst ha
  show M.withO (env.fn.get e.f) (runFn env lf call (S2.mkL e.ss x)) s = some r
  rw [e.hf]
  exact ref_gFn shT env call lf (S2.mkL e.ss x) e.fn s r (by rw [e.h]; exact h2)

theorem callD_le {env : Env} {lf K : Nat} {tab : T W} (hT : TabOK env lf K tab) : ∀ n, CLe (callD env lf tab n) (callN env lf (n + K))
  | 0 => fun t args s r h => by cases h
  | n + 1 => by
    intro t args
    have ih := callD_le hT n
    have hn : n + 1 + K = (n + K) + 1 := by omega
    rw [hn]
    cases t with
    | yield l => exact mle_callK ih lf (.yield l) args
    | fn f =>
      show MLe (orW (tab.get f) (callD env lf tab n) lf args (callK env lf (callD env lf tab n) (.fn f) args)) _
      cases hw : tab.get f with
      | none => exact mle_callK ih lf (.fn f) args
      | some w =>
        show MLe (w (callD env lf tab n) lf args) _
        rcases hT f w hw with h | h
        · exact (h _ args).trans (mle_callK ih lf (.fn f) args)
        · refine (h (callD env lf tab n) args).trans ?_
          have := callN_le env lf K (n + 1) (.fn f) args
          rw [show K + (n + 1) = n + K + 1 by omega] at this
          exact this

noncomputable def entsL {env : Env} {shT : Nat → Option S3} (l : List (Ent env shT)) : List (Nat × W) := List.rec (motive := fun _ => List (Nat × W)) [] (fun e _ r => (e.f, entW e) :: r) l
theorem entsL_mem {env : Env} {shT : Nat → Option S3} : ∀ (l : List (Ent env shT)) (f : Nat) (w : W), (f, w) ∈ entsL l → ∃ e : Ent env shT, e.f = f ∧ w = entW e
  | [], f, w, h => (List.not_mem_nil h).elim
  | e :: l, f, w, h => by
    rcases List.mem_cons.1 (show (f, w) ∈ (e.f, entW e) :: entsL l from h) with h | h
    · injection h with h1 h2
      exact ⟨e, h1.symm, h2⟩
    · exact entsL_mem l f w h
theorem entsL_ok {env : Env} {shT : Nat → Option S3} (l : List (Ent env shT)) (lf K : Nat) : TabOK env lf K (T.ofPairs (entsL l)) := fun f w h => by
  obtain ⟨e, h1, h2⟩ := entsL_mem l f w (ofPairs_mem _ _ _ h)
  subst h1; subst h2
  exact .inl fun call args => entW_ok lf e call args
end Go.Ax
