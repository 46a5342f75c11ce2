/- Shallow code out of the executor's: cuts, loops, code, functions: what the generator makes of a function stands for it.
Conditions: none. -/
import Derived.Test.YtjlhclmgjdabfaaGreatAxV5
namespace Go.Ax
set_option linter.unusedSectionVars false
set_option linter.unusedVariables false
set_option linter.unusedSimpArgs false

theorem getV_le : ∀ {L : LV} {t u : T Value} {x : SemV L}, getV L t = some x → LeT t u → getV L u = some x
  | [], t, u, x, h, hle => h
  | p :: L, t, u, x, h, hle => by
    have h' : (match t.get p.1 with
      | none => none
      | some v => pairO (p.2.un v) (getV L t)) = some x := h
    show (match u.get p.1 with
      | none => none
      | some v => pairO (p.2.un v) (getV L u)) = some x
    cases e : t.get p.1 with
    | none => rw [e] at h'; cases h'
    | some v =>
      rw [e] at h'
      rw [hle _ _ e]
      obtain ⟨h1, h2⟩ := pairO_some (show pairO (p.2.un v) (getV L t) = some x from h')
      show pairO (p.2.un v) (getV L u) = some x
      rw [h1, getV_le h2 hle]; rfl

theorem putV_le : ∀ {L : LV} {t u : T Value} {x : SemV L}, getV L u = some x → LeT t u → LeT (putV L x t) u
  | [], t, u, x, h, hle => hle
  | p :: L, t, u, x, h, hle => by
    have h' : (match u.get p.1 with
      | none => none
      | some v => pairO (p.2.un v) (getV L u)) = some x := h
    show LeT (putV L x.2 (t.set p.1 (p.2.mk x.1))) u
    cases e : u.get p.1 with
    | none => rw [e] at h'; cases h'
    | some v =>
      rw [e] at h'
      obtain ⟨h1, h2⟩ := pairO_some (show pairO (p.2.un v) (getV L u) = some x from h')
      refine putV_le h2 fun n w hw => ?_
      rw [T.get_set] at hw
      by_cases en : n = p.1
      · rw [if_pos en] at hw
        rw [en, e, S2.un_mk h1, hw]
      · rw [if_neg en] at hw
        exact hle _ _ hw

theorem sameEx_eq {e x : AExit} (h : sameEx e x = true) : e = x := by
  cases e <;> cases x <;> first | rfl | (cases h; done) | skip
  rename_i i j
  exact congrArg _ (Nat.eq_of_beq_eq_true h)

theorem injX_le : ∀ {X : List (AExit × LV)} {e : AExit} {t u : T Value} {x : SemX X}, injX X e t = some x → LeT t u → injX X e u = some x
  | [], e, t, u, x, h, hle => by cases h
  | [p], e, t, u, x, h, hle => by
    have h' : (match sameEx p.1 e with
      | true => getV p.2 t
      | false => none) = some x := h
    show (match sameEx p.1 e with
      | true => getV p.2 u
      | false => none) = some x
    cases hs : sameEx p.1 e with
    | false => rw [hs] at h'; cases h'
    | true => rw [hs] at h'; exact getV_le (L := p.2) h' hle
  | p :: q :: X, e, t, u, x, h, hle => by
    have h' : (match sameEx p.1 e with
      | true => mapO Sum.inl (getV p.2 t)
      | false => mapO Sum.inr (injX (q :: X) e t)) = some x := h
    show (match sameEx p.1 e with
      | true => mapO Sum.inl (getV p.2 u)
      | false => mapO Sum.inr (injX (q :: X) e u)) = some x
    cases hs : sameEx p.1 e with
    | true =>
      rw [hs] at h'
      cases hv : getV p.2 t with
      | none => rw [hv] at h'; cases h'
      | some y =>
        rw [hv] at h'
        rw [getV_le hv hle]; exact h'
    | false =>
      rw [hs] at h'
      cases hv : injX (q :: X) e t with
      | none => rw [hv] at h'; cases h'
      | some y =>
        rw [hv] at h'
        rw [injX_le hv hle]; exact h'

section
variable {R : Type}

theorem caseX_ok : ∀ {X : List (AExit × LV)} {e : AExit} {t' tB : T Value} {x : SemX X}, injX X e t' = some x → LeT tB t' → ∀ {k : AExit → T Value → Tr R} {K : AExit × T Value → M R},
    (∀ e tT tm, LeT tT tm → Ref (k e tT) (K (e, tm))) → Ref (caseX X x k tB) (K (e, t'))
  | [], e, t', tB, x, h, hle, k, K, hk => by cases h
  | [p], e, t', tB, x, h, hle, k, K, hk => by
    have h' : (match sameEx p.1 e with
      | true => getV p.2 t'
      | false => none) = some x := h
    cases hs : sameEx p.1 e with
    | false => rw [hs] at h'; cases h'
    | true =>
      rw [hs] at h'
      rw [← sameEx_eq hs]
      exact hk _ _ _ (putV_le (L := p.2) h' hle)
  | p :: q :: X, e, t', tB, x, h, hle, k, K, hk => by
    have h' : (match sameEx p.1 e with
      | true => mapO Sum.inl (getV p.2 t')
      | false => mapO Sum.inr (injX (q :: X) e t')) = some x := h
    cases hs : sameEx p.1 e with
    | true =>
      rw [hs] at h'
      cases hv : getV p.2 t' with
      | none => rw [hv] at h'; cases h'
      | some y =>
        rw [hv] at h'
        injection h' with h'
        rw [← h', ← sameEx_eq hs]
        exact hk _ _ _ (putV_le hv hle)
    | false =>
      rw [hs] at h'
      cases hv : injX (q :: X) e t' with
      | none => rw [hv] at h'; cases h'
      | some y =>
        rw [hv] at h'
        injection h' with h'
        rw [← h']
        exact caseX_ok hv hle hk

theorem delL_get : ∀ (W : List Tmp) (t : T Value) (n : Nat) (v : Value), (delL W t).get n = some v → t.get n = some v ∧ n ∉ W
  | [], t, n, v, h => ⟨h, List.not_mem_nil⟩
  | w :: W, t, n, v, h => by
    obtain ⟨h1, h2⟩ := delL_get W _ n v (show (delL W (match t.get w with | some _ => t.del w | none => t)).get n = some v from h)
    cases e : t.get w with
    | none =>
      rw [e] at h1
      have h1' : t.get n = some v := h1
      refine ⟨h1', fun hm => ?_⟩
      rcases List.mem_cons.1 hm with hm | hm
      · rw [hm, e] at h1'; cases h1'
      · exact h2 hm
    | some u =>
      rw [e] at h1
      have h1' : (t.del w).get n = some v := h1
      rw [T.get_del] at h1'
      by_cases en : n = w
      · rw [if_pos en] at h1'; cases h1'
      · rw [if_neg en] at h1'
        refine ⟨h1', fun hm => ?_⟩
        rcases List.mem_cons.1 hm with hm | hm
        · exact en hm
        · exact h2 hm

theorem delL_le {W : List Tmp} {tT tm t' : T Value} (hle : LeT tT tm) (hfr : ∀ n, n ∉ W → t'.get n = tm.get n) : LeT (delL W tT) t' := fun n v h => by
  obtain ⟨h1, h2⟩ := delL_get W tT n v h
  rw [hfr n h2]; exact hle _ _ h1

theorem ref_gCut {X : List (AExit × LV)} {W : List Tmp} {a : (AExit → T Value → Tr (SemX X)) → Tr (SemX X)} {tT tm : T Value} {m : M (AExit × T Value)}
    (ha : ∀ (k : AExit → T Value → Tr (SemX X)) (K : AExit × T Value → M (SemX X)), (∀ e tT tm, LeT tT tm → Ref (k e tT) (K (e, tm))) → Ref (a k) (M.bind m K))
    (hfr : ∀ s q s', m s = some (q, s') → ∀ n, n ∉ W → q.2.get n = tm.get n) (hle : LeT tT tm)
    {k : AExit → T Value → Tr R} {K : AExit × T Value → M R} (h : ∀ e tT tm, LeT tT tm → Ref (k e tT) (K (e, tm))) : Ref (gCut X W a tT k) (M.bind m K) := by
  intro s r e
  obtain ⟨x, s1, e1, e2⟩ := bind_some (show M.bind (a fun e tm => wO (injX X e tm) .ret).run (fun x => (caseX X x k (delL W tT)).run) s = some (r.1, r.2) from e)
  have := ha (fun e tm => wO (injX X e tm) .ret) (fun q => M.ofO (injX X q.1 q.2)) (fun e tT tm hle => by
    intro s r hr
    show M.ofO (injX X e tm) s = some r
    cases hi : injX X e tT with
    | none => rw [hi] at hr; cases hr
    | some y => rw [hi] at hr; rw [injX_le hi hle]; exact hr) s (x, s1) e1
  obtain ⟨⟨e', t'⟩, s2, e3, e4⟩ := bind_some this
  obtain ⟨e5, e6⟩ := ofO_some e4
  subst e6
  exact bind_of e3 (caseX_ok e5 (delL_le hle (hfr _ _ _ e3)) h _ _ e2)

theorem ref_gLoop {lf : Nat} {L : LV} {X : List (AExit × LV)} {W : List Tmp} {a : T Value → (AExit → T Value → Tr (SemV L ⊕ SemX X)) → Tr (SemV L ⊕ SemX X)} {tT tm : T Value} {f : T Value → M (AExit × T Value)}
    (ha : ∀ (k : AExit → T Value → Tr (SemV L ⊕ SemX X)) (K : AExit × T Value → M (SemV L ⊕ SemX X)), (∀ e tT tm, LeT tT tm → Ref (k e tT) (K (e, tm))) → ∀ tT tm, LeT tT tm → Ref (a tT k) (M.bind (f tm) K))
    (hfr : ∀ tm s q s', f tm s = some (q, s') → ∀ n, n ∉ W → q.2.get n = tm.get n) (hle : LeT tT tm)
    {k : AExit → T Value → Tr R} {K : AExit × T Value → M R} (h : ∀ e tT tm, LeT tT tm → Ref (k e tT) (K (e, tm))) : Ref (gLoop lf L X W a tT k) (M.bind (iter f lf tm) K) := by
  intro s r e
  unfold gLoop at e
  cases h0 : getV L tT with
  | none => rw [h0] at e; cases e
  | some x0 =>
  rw [h0] at e
  obtain ⟨z, s1, e1, e2⟩ := bind_some (show M.bind (iterS (fun x => (a (putV L x (delL W tT)) fun e tm => match e with
    | .normal => wO (getV L tm) fun y => .ret (.inl y)
    | .exit i => wO (injX X (.exit i) tm) fun y => .ret (.inr y)
    | .ret => wO (injX X .ret tm) fun y => .ret (.inr y)).run) lf x0) (fun x => (caseX X x k (delL W tT)).run) s = some (r.1, r.2) from e)
  have key : ∀ n (x : SemV L) (tm1 : T Value) s z s', getV L tm1 = some x → (∀ m, m ∉ W → tm1.get m = tm.get m) →
      iterS (fun x => (a (putV L x (delL W tT)) fun e tm => match e with
        | .normal => wO (getV L tm) fun y => .ret (.inl y)
        | .exit i => wO (injX X (.exit i) tm) fun y => .ret (.inr y)
        | .ret => wO (injX X .ret tm) fun y => .ret (.inr y)).run) n x s = some (z, s') →
      ∃ q, iter f n tm1 s = some (q, s') ∧ injX X q.1 q.2 = some z ∧ ∀ m, m ∉ W → q.2.get m = tm.get m := by
    intro n
    induction n with
    | zero => intro x tm1 s z s' _ _ hi; cases hi
    | succ n ih =>
      intro x tm1 s z s' hx hf hi
      obtain ⟨rr, s2, e3, e4⟩ := bind_some (show M.bind (a (putV L x (delL W tT)) fun e tm => match e with
        | .normal => wO (getV L tm) fun y => .ret (.inl y)
        | .exit i => wO (injX X (.exit i) tm) fun y => .ret (.inr y)
        | .ret => wO (injX X .ret tm) fun y => .ret (.inr y)).run (iterK (iterS _ n)) s = some (z, s') from hi)
      have hq := ha _ (fun q => match q.1 with
        | .normal => M.ofO (mapO Sum.inl (getV L q.2))
        | .exit i => M.ofO (mapO Sum.inr (injX X (.exit i) q.2))
        | .ret => M.ofO (mapO Sum.inr (injX X .ret q.2))) (fun e tT tm hle => by
          intro s r hr
          cases e with
          | normal =>
            show M.ofO (mapO Sum.inl (getV L tm)) s = some r
            cases hi : getV L tT with
            | none => simp only [hi] at hr; cases hr
            | some y => simp only [hi] at hr; rw [getV_le hi hle]; exact hr
          | exit i =>
            show M.ofO (mapO Sum.inr (injX X (.exit i) tm)) s = some r
            cases hi : injX X (.exit i) tT with
            | none => simp only [hi] at hr; cases hr
            | some y => simp only [hi] at hr; rw [injX_le hi hle]; exact hr
          | ret =>
            show M.ofO (mapO Sum.inr (injX X .ret tm)) s = some r
            cases hi : injX X .ret tT with
            | none => simp only [hi] at hr; cases hr
            | some y => simp only [hi] at hr; rw [injX_le hi hle]; exact hr) (putV L x (delL W tT)) tm1 (putV_le hx (delL_le hle hf)) s (rr, s2) e3
      obtain ⟨⟨e', t'⟩, s3, e5, e6⟩ := bind_some hq
      have hf' : ∀ m, m ∉ W → t'.get m = tm.get m := fun m hm => by rw [hfr _ _ _ _ e5 m hm]; exact hf m hm
      rw [iter_succ]
      cases e' with
      | normal =>
        have e7 : M.ofO (mapO Sum.inl (getV L t')) s3 = some (rr, s2) := e6
        cases hg : getV L t' with
        | none => rw [hg] at e7; cases e7
        | some y =>
          rw [hg] at e7
          obtain ⟨e8, e9⟩ := ofO_some e7
          injection e8 with e8
          subst e8; subst e9
          obtain ⟨q, q1, q2⟩ := ih y t' s2 z s' hg hf' e4
          exact ⟨q, bind_of e5 q1, q2⟩
      | exit i =>
        have e7 : M.ofO (mapO Sum.inr (injX X (.exit i) t')) s3 = some (rr, s2) := e6
        cases hg : injX X (.exit i) t' with
        | none => rw [hg] at e7; cases e7
        | some y =>
          rw [hg] at e7
          obtain ⟨e8, e9⟩ := ofO_some e7
          injection e8 with e8
          subst e8; subst e9
          obtain ⟨e10, e11⟩ := pure_some (show M.pure y s2 = some (z, s') from e4)
          subst e10; subst e11
          exact ⟨(.exit i, t'), bind_of e5 rfl, hg, hf'⟩
      | ret =>
        have e7 : M.ofO (mapO Sum.inr (injX X .ret t')) s3 = some (rr, s2) := e6
        cases hg : injX X .ret t' with
        | none => rw [hg] at e7; cases e7
        | some y =>
          rw [hg] at e7
          obtain ⟨e8, e9⟩ := ofO_some e7
          injection e8 with e8
          subst e8; subst e9
          obtain ⟨e10, e11⟩ := pure_some (show M.pure y s2 = some (z, s') from e4)
          subst e10; subst e11
          exact ⟨(.ret, t'), bind_of e5 rfl, hg, hf'⟩
  obtain ⟨q, q1, q2, q3⟩ := key lf x0 tm s z s1 (getV_le h0 hle) (fun _ _ => rfl) e1
  exact bind_of q1 (caseX_ok q2 (delL_le hle q3) h _ _ e2)
end

theorem ref_gC (G : GE) (c : Code) : ∀ (R : Type) (outs : Outs) {tT tm : T Value}, LeT tT tm → ∀ {k : AExit → T Value → Tr R} {K : AExit × T Value → M R},
    (∀ e tT tm, LeT tT tm → Ref (k e tT) (K (e, tm))) → Ref (gC c R G outs tT k) (M.bind (execC c G.env G.call G.lf tm) K) := by
  induction c with
  | skip => intro R outs tT tm hle k K h; exact h .normal _ _ hle
  | ret => intro R outs tT tm hle k K h; exact h .ret _ _ hle
  | exit id => intro R outs tT tm hle k K h; exact h (.exit id) _ _ hle
  | region id ops d => intro R outs tT tm hle k K h; exact ref_gRegion (lf := G.lf) hle fun tT tm hle => h .normal _ _ hle
  | seq a b iha ihb =>
    intro R outs tT tm hle k K h
    have hc : ∀ e tT tm, LeT tT tm → Ref (contN (fun tm => gC b R G outs tm k) k e tT) (M.bind (seqK (execC b) G.env G.call G.lf (e, tm)) K) := by
      intro e tT tm hle
      cases e with
      | normal => exact ihb R outs hle h
      | exit i => exact h _ _ _ hle
      | ret => exact h _ _ _ hle
    show Ref (gSeq a b (gC a) (gC b) R G outs tT k) (M.bind (M.bind (execC a G.env G.call G.lf tm) (seqK (execC b) G.env G.call G.lf)) K)
    rw [bind_assoc']
    unfold gSeq
    cases cutB a b with
    | false => exact iha R _ hle hc
    | true => exact ref_gCut (fun k K hk => iha _ _ hle hk) (fun s q s' hq n hn => code_frame G.lf a hq hn) hle hc
  | cond c a b iha ihb =>
    intro R outs tT tm hle k K h
    show Ref (gCond c tT (fun tm => gC a R G outs tm k) (fun tm => gC b R G outs tm k)) (M.bind (condK (execC a) (execC b) (ev c tm) G.env G.call G.lf tm) K)
    unfold gCond
    cases c with
    | tmp t =>
      show Ref (match tT.get t with
        | some (.bool b) => _
        | _ => _) _
      cases ht : tT.get t with
      | none => exact ref_fail
      | some v => cases v with
        | bool x =>
          have hev : ev (.tmp t) tm = some (.bool x) := by show evT (tm.get t) = _; rw [hle _ _ ht]; rfl
          rw [hev]
          refine ref_cond (fun hx => ?_) (fun hx => ?_)
          · subst hx; exact iha R outs (hle.known ht) h
          · subst hx; exact ihb R outs (hle.known ht) h
        | _ => exact ref_fail
    | const v =>
      cases v with
      | bool x =>
        have hev : ev (.const (.bool x)) tm = some (.bool x) := rfl
        rw [hev]
        refine ref_cond (fun hx => ?_) (fun hx => ?_)
        · subst hx; exact iha R outs hle h
        · subst hx; exact ihb R outs hle h
      | _ => exact ref_fail
    | _ => exact ref_fail
  | block id a iha =>
    intro R outs tT tm hle k K h
    show Ref (gC a R G (outsB outs id) tT fun e tm => k (blockE id e) tm) (M.bind (M.bind (execC a G.env G.call G.lf tm) (blockK id)) K)
    rw [bind_assoc']
    refine iha R _ hle fun e tT tm hle => ?_
    have : M.bind (blockK id (e, tm)) K = K (blockE id e, tm) := by
      cases e with
      | normal => rfl
      | ret => rfl
      | exit i =>
        show M.bind (match Nat.beq i id with
          | true => M.pure (AExit.normal, tm)
          | false => M.pure (AExit.exit i, tm)) K = K (match Nat.beq i id with
          | true => .normal
          | false => .exit i, tm)
        cases Nat.beq i id <;> rfl
    rw [this]
    exact h _ _ _ hle
  | loop a iha =>
    intro R outs tT tm hle k K h
    exact ref_gLoop (fun k K hk tT tm hle => iha _ _ hle hk) (fun tm s q s' hq n hn => code_frame G.lf a hq hn) hle h
  | rangeFunc f ps a b _ _ => intro R outs tT tm hle k K h; exact ref_fail
  | scope a _ => intro R outs tT tm hle k K h; exact ref_fail
  | label l => intro R outs tT tm hle k K h; exact ref_fail
  | goto l => intro R outs tT tm hle k K h; exact ref_fail
  | refuse w => intro R outs tT tm hle k K h; exact ref_fail

theorem ref_gRes {env : Env} {tT tm : T Value} (hle : LeT tT tm) : ∀ (rs : List ResultVar) {k : List Value → Tr Value} {K : List Value → M Value}, (∀ vs, Ref (k vs) (K vs)) → Ref (gRes env tT rs k) (M.bind (resM env tm rs) K)
  | [], k, K, h => h []
  | r :: rs, k, K, h => by
    cases r with
    | tmp t =>
      show Ref (wO (tT.get t) fun v => gRes env tT rs fun vs => k (v :: vs)) (M.bind (M.withO (evT (tm.get t)) fun v => mapM (fun vs => v :: vs) (resM env tm rs)) K)
      cases ht : tT.get t with
      | none => exact ref_fail
      | some v =>
        rw [hle _ _ ht]
        show Ref _ (M.bind (M.bind (resM env tm rs) fun vs => M.pure (v :: vs)) K)
        rw [bind_assoc']
        exact ref_gRes hle rs fun vs => h _
    | cell a t =>
      show Ref (wO (env.ty.get t) fun ti => ptrT (tT.get a) fun p => gLoad ti p fun v => gRes env tT rs fun vs => k (v :: vs))
        (M.bind (M.withO (env.ty.get t) fun ti => M.withO (evT (tm.get a)) fun p => M.bind (ptrK (loadV ti) p) fun v => mapM (fun vs => v :: vs) (resM env tm rs)) K)
      cases env.ty.get t with
      | none => exact ref_fail
      | some ti =>
        cases ha : tT.get a with
        | none => exact ref_fail
        | some v =>
          rw [hle _ _ ha]
          cases v with
          | pointer p =>
            show Ref (gLoad ti p fun v => gRes env tT rs fun vs => k (v :: vs)) (M.bind (M.bind (ptrK (loadV ti) (.pointer p)) fun v => mapM (fun vs => v :: vs) (resM env tm rs)) K)
            rw [bind_assoc']
            refine ref_gLoad (K := fun v => M.bind (mapM (fun vs => v :: vs) (resM env tm rs)) K) fun v => ?_
            show Ref _ (M.bind (M.bind (resM env tm rs) fun vs => M.pure (v :: vs)) K)
            rw [bind_assoc']
            exact ref_gRes hle rs fun vs => h _
          | _ => exact ref_fail

/-- What the generator makes of a function stands for it. -/
theorem ref_gFn (shT : Nat → Option S3) (env : Env) (call : CallH) (lf : Nat) (args : List Value) (fn : Func) : Ref (gFn shT env call lf args fn) (runFn env lf call args fn) := by
  unfold gFn runFn
  cases fn.body with
  | none => exact ref_fail
  | some c =>
    show Ref (match Nat.ble (lenL args) fn.ntmps with | true => _ | false => _) (match Nat.ble (lenL args) fn.ntmps with | true => _ | false => _)
    cases Nat.ble (lenL args) fn.ntmps with
    | false => exact ref_fail
    | true =>
      refine ref_gC { shT := shT, st := shC shT c (shPs shT fn.params.toList 0 .nil), n := fn.ntmps, env := env, call := call, lf := lf } c Value _ (LeT.refl _) fun e tT tm hle => ?_
      have hend : Ref (gRes env tT fn.results.toList fun vs => .ret (tupV vs)) (M.bind (resM env tm fn.results.toList) tupleOf) := ref_gRes hle _ fun vs => by
        match vs with
        | [v] => exact ref_ret _
        | [] => exact ref_ret _
        | _ :: _ :: _ => exact ref_ret _
      cases e with
      | normal => exact hend
      | ret => exact hend
      | exit i => exact ref_fail

/-- A call's answer, out of the tree's. -/
theorem callT_gFn {shT : Nat → Option S3} {env : Env} {lf : Nat} {tbl : Tbl} {n f : Nat} {fn : Func} {args : List Value} {s s' : HS} {v : Value} {t : Tr Value} (hf : env.fn.get f = some fn) (ht : tbl f args = none)
    (hg : gFn shT env (callT env lf tbl n) lf args fn = t) (h : t.run s = some (v, s')) : callT env lf tbl (n + 1) (.fn f) args s = some (v, s') := by
  show orCall args (tbl f args) (callK env lf (callT env lf tbl n) (.fn f) args) s = _
  rw [ht]
  show M.withO (env.fn.get f) (runFn env lf (callT env lf tbl n) args) s = _
  rw [hf]
  exact ref_gFn shT env _ lf args fn s (v, s') (by rw [hg]; exact h)
end Go.Ax
