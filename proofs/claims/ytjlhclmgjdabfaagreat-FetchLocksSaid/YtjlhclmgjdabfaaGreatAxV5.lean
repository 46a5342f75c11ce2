/- Shallow code out of the executor's: regions, code and functions.
Conditions: none. -/
import Derived.Test.YtjlhclmgjdabfaaGreatAxV4
namespace Go.Ax
set_option linter.unusedSectionVars false
set_option linter.unusedVariables false
set_option linter.unusedSimpArgs false

theorem bind_assoc' {α β γ : Type} (m : M α) (f : α → M β) (g : β → M γ) : M.bind (M.bind m f) g = M.bind m fun a => M.bind (f a) g := by
  funext s
  unfold M.bind
  cases m s with
  | none => rfl
  | some q => rfl

section
variable {R : Type} {env : Env} {call : CallH} {shT : Nat → Option S3}

theorem ref_gStep {ops : List Oper} {o : Oper} {tT tm : T Value} (hle : LeT tT tm) {k : T Value → Tr R} {K : T Value → M R} (h : ∀ tT tm, LeT tT tm → Ref (k tT) (K tm)) :
    Ref (gStep shT ops o env call tT k) (M.bind (stepOp ops o env call tm) K) := by
  have yes : ∀ {tT : T Value}, LeT tT tm → Ref (gOp (shT o.type) o.op env call tT fun v => k (putT o.dst v tT)) (M.bind (M.bind (execOp o.op env call tm) fun v => M.pure (putT o.dst v tm)) K) := by
    intro tT hle
    rw [bind_assoc']
    exact ref_gOp hle fun v => h _ _ (hle.put _ _)
  have no : ∀ {tT : T Value}, LeT tT tm → Ref (k (putT o.dst undef' tT)) (M.bind (M.pure (putT o.dst undef' tm)) K) := fun hle => h _ _ (hle.put _ _)
  unfold gStep stepOp
  cases hg : o.guard with
  | none => exact yes hle
  | some q =>
    obtain ⟨j, want⟩ := q
    show Ref (match slotOf (nthL ops j) with
      | none => _
      | some t => _) (M.bind (match guardV want (readT tm (slotOf (nthL ops j))) with | true => _ | false => _) K)
    cases hs : slotOf (nthL ops j) with
    | none => exact no hle
    | some t =>
      show Ref (match tT.get t with
        | some (.bool b) => _
        | some (.tuple _) => _
        | _ => _) (M.bind (match guardV want (tm.get t) with | true => _ | false => _) K)
      cases ht : tT.get t with
      | none => exact ref_fail
      | some v => cases v with
        | bool b =>
          rw [hle _ _ ht]
          show Ref (gGuard want t b tT _ _) _
          unfold gGuard
          refine ref_cond (fun hb => ?_) (fun hb => ?_)
          · subst hb
            have hk := hle.known ht
            cases want with
            | true => exact yes hk
            | false => exact no hk
          · subst hb
            have hk := hle.known ht
            cases want with
            | true => exact no hk
            | false => exact yes hk
        | tuple vs =>
          rw [hle _ _ ht]
          exact no hle
        | _ => exact ref_fail

theorem ref_gOps {ops : List Oper} : ∀ (l : List Oper) {tT tm : T Value}, LeT tT tm → ∀ {k : T Value → Tr R} {K : T Value → M R}, (∀ tT tm, LeT tT tm → Ref (k tT) (K tm)) →
    Ref (gOps shT ops env call l tT k) (M.bind (execOps ops l env call tm) K)
  | [], tT, tm, hle, k, K, h => h _ _ hle
  | o :: l, tT, tm, hle, k, K, h => by
    rw [execOps_cons, bind_assoc']
    exact ref_gStep hle fun tT tm hle => ref_gOps l hle h

theorem runW_op (i : Nat) (recs : Recs) (m : M (T Value)) : runW i recs m = M.bind begW fun q => M.bind m fun tm => M.bind (endW q.2) fun seg => M.pure (tm, (i, q.1, seg) :: recs) := by
  funext s
  show recK i s.c s.log recs (m { h := s.h, c := s.c, log := [] }) = M.bind m (fun tm => M.bind (endW s.log) fun seg => M.pure (tm, (i, s.c, seg) :: recs)) { h := s.h, c := s.c, log := [] }
  unfold M.bind
  cases m { h := s.h, c := s.c, log := [] } with
  | none => rfl
  | some q => rfl

theorem ref_gW {i : Nat} {recs : Recs} {g : (T Value → Tr R) → Tr R} {m : M (T Value)} {k : T Value × Recs → Tr R} {K : T Value × Recs → M R}
    (hg : ∀ (k : T Value → Tr R) (K : T Value → M R), (∀ tT tm, LeT tT tm → Ref (k tT) (K tm)) → Ref (g k) (M.bind m K)) (h : ∀ tT tm recs, LeT tT tm → Ref (k (tT, recs)) (K (tm, recs))) :
    Ref (gW i recs g k) (M.bind (runW i recs m) K) := by
  rw [runW_op, bind_assoc']
  intro s r e
  obtain ⟨q, s1, e1, e2⟩ := bind_some (show M.bind begW (fun q => (g fun tm => .op (endW q.2) fun seg => k (tm, (i, q.1, seg) :: recs)).run) s = some (r.1, r.2) from e)
  refine bind_of e1 ?_
  rw [bind_assoc']
  refine hg _ (fun tm => M.bind (M.bind (endW q.2) fun seg => M.pure (tm, (i, q.1, seg) :: recs)) K) (fun tT tm hle => ?_) s1 r e2
  intro s2 r2 e3
  obtain ⟨seg, s3, e4, e5⟩ := bind_some (show M.bind (endW q.2) (fun seg => (k (tT, (i, q.1, seg) :: recs)).run) s2 = some (r2.1, r2.2) from e3)
  exact bind_of (bind_of e4 rfl) (h _ _ _ hle _ _ e5)

theorem clrP_none (m : Nat) : ∀ (recs : Recs), clrP m none recs = true → True := fun _ _ => trivial
theorem clrP_some (m : Nat) (a : Addr) : ∀ (recs : Recs), clrP m (some a) recs = true → clear? a.block m recs = true
  | [], _ => rfl
  | (i, c, seg) :: l, h => by
    have h' : (match bit m i with
      | true => clrP m (some a) l
      | false => match Nat.blt a.block c with
        | true => match memN a.block seg with
          | true => false
          | false => clrP m (some a) l
        | false => false) = true := h
    show (match bit m i with
      | true => clear? a.block m l
      | false => match Nat.blt a.block c with
        | true => match memN a.block seg with
          | true => false
          | false => clear? a.block m l
        | false => false) = true
    cases h1 : bit m i with
    | true => rw [h1] at h'; exact clrP_some m a l h'
    | false =>
      rw [h1] at h'
      cases h2 : Nat.blt a.block c with
      | false => rw [h2] at h'; cases h'
      | true =>
        rw [h2] at h'
        cases h3 : memN a.block seg with
        | true => rw [h3] at h'; cases h'
        | false => rw [h3] at h'; exact clrP_some m a l h'

theorem ev_le {x : Operand} {tT tm : T Value} (hle : LeT tT tm) {v : Value} (h : ev x tT = some v) (hv : v ≠ undef') : ev x tm = some v := by
  cases x with
  | tmp t =>
    have h' : evT (tT.get t) = some v := h
    show evT (tm.get t) = some v
    cases e : tT.get t with
    | none => rw [e] at h'; injection h' with h'; exact absurd h'.symm hv
    | some u => rw [e] at h'; rw [hle _ _ e]; exact h'
  | const c => exact h
  | global g => exact h
  | func f => exact h

theorem gClear_ok {m : Nat} {recs : Recs} {o : Op} {tT tm : T Value} (hle : LeT tT tm) (h : gClear m recs o tT = some true) : loadOK o m tm recs = true := by
  unfold gClear at h
  split at h
  · rename_i t x
    cases hx : ev x tT with
    | none => rw [hx] at h; cases h
    | some v =>
      rw [hx] at h
      cases v with
      | pointer p =>
        injection h with h
        have hm := ev_le hle hx (by intro e; cases e)
        show clearO m recs (readsV (ev x tm)) = true
        rw [hm]
        cases p with
        | none => rfl
        | some a => exact clrP_some m a recs h
      | _ => cases h
  · rename_i t x lo hi mx
    cases hx : ev x tT with
    | none => rw [hx] at h; cases h
    | some v =>
      rw [hx] at h
      cases v with
      | slice a n c =>
        injection h with h
        have hm := ev_le hle hx (by intro e; cases e)
        show clearO m recs (readsS (ev x tm)) = true
        rw [hm]
        cases a with
        | none => rfl
        | some a => exact clrP_some m a recs h
      | pointer p =>
        have hm := ev_le hle hx (by intro e; cases e)
        show clearO m recs (readsS (ev x tm)) = true
        rw [hm]; rfl
      | _ => cases h
  · cases h

theorem ref_gRead {ops : List Oper} {e : PE} {recs : Recs} {tT tm : T Value} (hle : LeT tT tm) {k : T Value → Tr R} {K : T Value × Recs → M R} (h : ∀ tT tm, LeT tT tm → Ref (k tT) (K (tm, recs))) :
    Ref (gRead shT ops e env call recs tT k) (M.bind (match wantedG ops tm e.o.guard with
    | true => match loadOK e.o.op e.m tm recs with
      | true => mapM (fun tm => (tm, recs)) (stepOp ops e.o env call tm)
      | false => M.fail
    | false => mapM (fun tm => (tm, recs)) (stepOp ops e.o env call tm)) K) := by
  have hst : mapM (fun tm => (tm, recs)) (stepOp ops e.o env call tm) = M.bind (match wantedG ops tm e.o.guard with
      | true => M.bind (execOp e.o.op env call tm) fun v => M.pure (putT e.o.dst v tm)
      | false => M.pure (putT e.o.dst undef' tm)) fun tm => M.pure (tm, recs) := rfl
  have yes : ∀ {tT : T Value}, LeT tT tm → wantedG ops tm e.o.guard = true → Ref (match gClear e.m recs e.o.op tT with
          | some c => cond c (gOp (shT e.o.type) e.o.op env call tT fun v => k (putT e.o.dst v tT)) .fail
          | none => .fail) (M.bind (match wantedG ops tm e.o.guard with
    | true => match loadOK e.o.op e.m tm recs with
      | true => mapM (fun tm => (tm, recs)) (stepOp ops e.o env call tm)
      | false => M.fail
    | false => mapM (fun tm => (tm, recs)) (stepOp ops e.o env call tm)) K) := by
    intro tT hle hw
    rw [hst, hw]
    cases hc : gClear e.m recs e.o.op tT with
    | none => exact ref_fail
    | some c => cases c with
      | false => exact ref_fail
      | true =>
        rw [gClear_ok hle hc]
        show Ref _ (M.bind (M.bind (M.bind (execOp e.o.op env call tm) fun v => M.pure (putT e.o.dst v tm)) fun tm => M.pure (tm, recs)) K)
        rw [bind_assoc', bind_assoc']
        exact ref_gOp hle fun v => h _ _ (hle.put _ _)
  have no : ∀ {tT : T Value}, LeT tT tm → wantedG ops tm e.o.guard = false → Ref (k (putT e.o.dst undef' tT)) (M.bind (match wantedG ops tm e.o.guard with
    | true => match loadOK e.o.op e.m tm recs with
      | true => mapM (fun tm => (tm, recs)) (stepOp ops e.o env call tm)
      | false => M.fail
    | false => mapM (fun tm => (tm, recs)) (stepOp ops e.o env call tm)) K) := by
    intro tT hle hw
    rw [hst, hw]
    exact h _ _ (hle.put _ _)
  unfold gRead
  cases hg : e.o.guard with
  | none =>
    have hw : wantedG ops tm e.o.guard = true := by rw [hg]; rfl
    have := yes hle hw
    rw [hg] at this
    have hs : gStep shT ops e.o env call tT k = gOp (shT e.o.type) e.o.op env call tT fun v => k (putT e.o.dst v tT) := by unfold gStep; rw [hg]
    rw [hs]
    exact this
  | some q =>
    obtain ⟨j, want⟩ := q
    have hwg : wantedG ops tm e.o.guard = guardV want (readT tm (slotOf (nthL ops j))) := by rw [hg]; rfl
    rw [hg] at yes no hwg
    show Ref (match slotOf (nthL ops j) with
      | none => _
      | some t => _) _
    cases hs : slotOf (nthL ops j) with
    | none => exact no hle (by rw [hwg, hs]; rfl)
    | some t =>
      have hwt : wantedG ops tm (some (j, want)) = guardV want (tm.get t) := by rw [hwg, hs]; rfl
      show Ref (match tT.get t with
        | some (.bool b) => _
        | some (.tuple _) => _
        | _ => _) _
      cases ht : tT.get t with
      | none => exact ref_fail
      | some v => cases v with
        | bool b =>
          rw [hle _ _ ht] at hwt
          show Ref (gGuard want t b tT _ _) _
          unfold gGuard
          refine ref_cond (fun hb => ?_) (fun hb => ?_)
          · subst hb
            have hk := hle.known ht
            cases want with
            | true => exact yes hk hwt
            | false => exact no hk hwt
          · subst hb
            have hk := hle.known ht
            cases want with
            | true => exact no hk hwt
            | false => exact yes hk hwt
        | tuple vs =>
          rw [hle _ _ ht] at hwt
          exact no hle hwt
        | _ => exact ref_fail

theorem ref_gPE {ops : List Oper} {e : PE} {recs : Recs} {tT tm : T Value} (hle : LeT tT tm) {k : T Value × Recs → Tr R} {K : T Value × Recs → M R} (h : ∀ tT tm recs, LeT tT tm → Ref (k (tT, recs)) (K (tm, recs))) :
    Ref (gPE shT ops e env call recs tT k) (M.bind (stepPE ops e env call recs tm) K) := by
  unfold gPE stepPE
  cases e.cls with
  | writer => exact ref_gW (fun k K h => ref_gStep hle h) h
  | alloc => exact ref_gW (fun k K h => ref_gStep hle h) h
  | load => exact ref_gRead hle fun tT tm hle => h _ _ _ hle
  | pure =>
    show Ref _ (M.bind (M.bind (stepOp ops e.o env call tm) fun tm => M.pure (tm, recs)) K)
    rw [bind_assoc']
    exact ref_gStep hle fun tT tm hle => h _ _ _ hle

theorem ref_gPEs {ops : List Oper} : ∀ (l : List PE) {tT tm : T Value} {recs : Recs}, LeT tT tm → ∀ {k : T Value → Tr R} {K : T Value → M R}, (∀ tT tm, LeT tT tm → Ref (k tT) (K tm)) →
    Ref (gPEs shT ops env call l (tT, recs) k) (M.bind (execPEs ops l env call (tm, recs)) K)
  | [], tT, tm, recs, hle, k, K, h => h _ _ hle
  | e :: l, tT, tm, recs, hle, k, K, h => by
    rw [execPEs_cons, bind_assoc']
    exact ref_gPE hle fun tT tm recs hle => ref_gPEs l hle h

theorem ref_gRegion {ops : Array Oper} {draw : Bool} {lf : Nat} {tT tm : T Value} (hle : LeT tT tm) {k : T Value → Tr R} {K : AExit × T Value → M R} (h : ∀ tT tm, LeT tT tm → Ref (k tT) (K (.normal, tm))) :
    Ref (gRegion shT ops.toList draw env call tT k) (M.bind (sRegion ops draw env call lf tm) K) := by
  unfold gRegion sRegion
  cases draw with
  | false =>
    show Ref _ (M.bind (M.bind (execOps ops.toList ops.toList env call tm) normalT) K)
    rw [bind_assoc']
    exact ref_gOps _ hle h
  | true =>
    show Ref (match okPlan env ops.toList (planOf env ops.toList) with | true => _ | false => _) (M.bind (M.bind (drawK ops.toList (planOf env ops.toList) (okPlan env ops.toList (planOf env ops.toList)) env call tm) normalT) K)
    cases okPlan env ops.toList (planOf env ops.toList) with
    | false => exact ref_fail
    | true =>
      rw [bind_assoc']
      exact ref_gPEs _ hle h
end

/-! ### What is left alone -/

section
variable {env : Env} {call : CallH}

theorem get_put_ne' {t : T Value} {d : Option Tmp} {v : Value} {n : Nat} (h : d ≠ some n) : (putT d v t).get n = t.get n := by
  cases d with
  | none => rfl
  | some d =>
    show (t.set d v).get n = _
    rw [T.get_set, if_neg]
    intro e; exact h (by rw [e])

theorem mem_dsts {n : Nat} : ∀ {l : List Oper}, n ∈ dsts l ↔ ∃ o ∈ l, o.dst = some n
  | [] => ⟨fun h => (List.not_mem_nil h).elim, fun ⟨_, h, _⟩ => (List.not_mem_nil h).elim⟩
  | o :: l => by
    have ih := mem_dsts (n := n) (l := l)
    show n ∈ (match o.dst with | some d => d :: dsts l | none => dsts l) ↔ _
    cases hd : o.dst with
    | none =>
      constructor
      · intro h; obtain ⟨x, h1, h2⟩ := ih.1 h; exact ⟨x, List.mem_cons_of_mem _ h1, h2⟩
      · rintro ⟨x, h1, h2⟩
        rcases List.mem_cons.1 h1 with h1 | h1
        · rw [h1, hd] at h2; cases h2
        · exact ih.2 ⟨x, h1, h2⟩
    | some d =>
      constructor
      · intro h
        rcases List.mem_cons.1 h with h | h
        · exact ⟨o, List.mem_cons_self, by rw [hd, h]⟩
        · obtain ⟨x, h1, h2⟩ := ih.1 h; exact ⟨x, List.mem_cons_of_mem _ h1, h2⟩
      · rintro ⟨x, h1, h2⟩
        rcases List.mem_cons.1 h1 with h1 | h1
        · rw [h1, hd] at h2; injection h2 with h2; rw [h2]; exact List.mem_cons_self
        · exact List.mem_cons_of_mem _ (ih.2 ⟨x, h1, h2⟩)

theorem stepOp_frame {ops : List Oper} {o : Oper} {tm tm' : T Value} {s s' : HS} (h : stepOp ops o env call tm s = some (tm', s')) {n : Nat} (hn : o.dst ≠ some n) : tm'.get n = tm.get n := by
  rw [stepOp_eq] at h
  obtain ⟨v, s1, h1, h2⟩ := bind_some h
  obtain ⟨h3, _⟩ := pure_some h2
  rw [← h3, get_put_ne' hn]

theorem execOps_frame {ops : List Oper} : ∀ {l : List Oper} {tm tm' : T Value} {s s' : HS}, execOps ops l env call tm s = some (tm', s') → ∀ {n : Nat}, n ∉ dsts l → tm'.get n = tm.get n
  | [], tm, tm', s, s', h, n, hn => by obtain ⟨h1, _⟩ := pure_some (show M.pure tm s = _ from h); rw [h1]
  | o :: l, tm, tm', s, s', h, n, hn => by
    rw [execOps_cons] at h
    obtain ⟨tm1, s1, h1, h2⟩ := bind_some h
    rw [execOps_frame h2 (fun hm => hn (mem_dsts.2 (by obtain ⟨x, a, b⟩ := mem_dsts.1 hm; exact ⟨x, List.mem_cons_of_mem _ a, b⟩)))]
    exact stepOp_frame h1 fun e => hn (mem_dsts.2 ⟨o, List.mem_cons_self, e⟩)

theorem stepPE_frame {ops : List Oper} {e : PE} {recs : Recs} {tm : T Value} {q : T Value × Recs} {s s' : HS} (h : stepPE ops e env call recs tm s = some (q, s')) {n : Nat} (hn : e.o.dst ≠ some n) : q.1.get n = tm.get n := by
  have w : ∀ {s s'}, runW e.i recs (stepOp ops e.o env call tm) s = some (q, s') → q.1.get n = tm.get n := by
    intro s s' h
    rw [runW_op] at h
    obtain ⟨a, s1, h1, h2⟩ := bind_some h
    obtain ⟨tm1, s2, h3, h4⟩ := bind_some h2
    obtain ⟨seg, s3, h5, h6⟩ := bind_some h4
    obtain ⟨h7, _⟩ := pure_some h6
    rw [← h7]
    exact stepOp_frame h3 hn
  have p : ∀ {s s'}, mapM (fun tm => (tm, recs)) (stepOp ops e.o env call tm) s = some (q, s') → q.1.get n = tm.get n := by
    intro s s' h
    obtain ⟨tm1, s1, h1, h2⟩ := bind_some h
    obtain ⟨h3, _⟩ := pure_some h2
    rw [← h3]
    exact stepOp_frame h1 hn
  unfold stepPE at h
  cases hc : e.cls with
  | writer => rw [hc] at h; exact w h
  | alloc => rw [hc] at h; exact w h
  | pure => rw [hc] at h; exact p h
  | load =>
    rw [hc] at h
    have h' : (match wantedG ops tm e.o.guard with
      | true => match loadOK e.o.op e.m tm recs with
        | true => mapM (fun tm => (tm, recs)) (stepOp ops e.o env call tm)
        | false => M.fail
      | false => mapM (fun tm => (tm, recs)) (stepOp ops e.o env call tm)) s = some (q, s') := h
    cases hw : wantedG ops tm e.o.guard with
    | false => rw [hw] at h'; exact p h'
    | true =>
      rw [hw] at h'
      cases hl : loadOK e.o.op e.m tm recs with
      | true => simp only [hl] at h'; exact p h'
      | false => simp only [hl] at h'; cases h'

theorem execPEs_frame {ops : List Oper} : ∀ {l : List PE} {q : T Value × Recs} {tm' : T Value} {s s' : HS}, execPEs ops l env call q s = some (tm', s') → ∀ {n : Nat}, (∀ e ∈ l, e.o.dst ≠ some n) → tm'.get n = q.1.get n
  | [], q, tm', s, s', h, n, hn => by obtain ⟨h1, _⟩ := pure_some (show M.pure q.1 s = _ from h); rw [h1]
  | e :: l, q, tm', s, s', h, n, hn => by
    rw [execPEs_cons] at h
    obtain ⟨q1, s1, h1, h2⟩ := bind_some h
    rw [execPEs_frame h2 fun x hx => hn x (List.mem_cons_of_mem _ hx)]
    exact stepPE_frame h1 (hn e List.mem_cons_self)

theorem region_frame {ops : Array Oper} {draw : Bool} {lf : Nat} {tm : T Value} {r : AExit × T Value} {s s' : HS} (h : sRegion ops draw env call lf tm s = some (r, s')) {n : Nat} (hn : n ∉ dsts ops.toList) : r.2.get n = tm.get n := by
  cases draw with
  | false =>
    obtain ⟨tm1, s1, h1, h2⟩ := bind_some (show M.bind (execOps ops.toList ops.toList env call tm) normalT s = _ from h)
    obtain ⟨h3, _⟩ := pure_some h2
    rw [← h3]
    exact execOps_frame h1 hn
  | true =>
    obtain ⟨tm1, s1, h1, h2⟩ := bind_some (show M.bind (drawK ops.toList (planOf env ops.toList) (okPlan env ops.toList (planOf env ops.toList)) env call tm) normalT s = _ from h)
    obtain ⟨h3, _⟩ := pure_some h2
    rw [← h3]
    cases hk : okPlan env ops.toList (planOf env ops.toList) with
    | false => rw [hk] at h1; cases h1
    | true =>
      rw [hk] at h1
      refine execPEs_frame (q := (tm, [])) h1 fun e he hd => ?_
      obtain ⟨_, h4, _⟩ := plan_mem env ops.toList e he
      exact hn (mem_dsts.2 ⟨e.o, List.mem_of_getElem? h4, hd⟩)

theorem code_frame (lf : Nat) (c : Code) : ∀ {tm : T Value} {r : AExit × T Value} {s s' : HS}, execC c env call lf tm s = some (r, s') → ∀ {n : Nat}, n ∉ wrL c → r.2.get n = tm.get n := by
  have happ : ∀ {a b : List Tmp} {n : Nat}, n ∉ appL a b → n ∉ a ∧ n ∉ b := by
    intro a b n h
    rw [appL_eq, List.mem_append] at h
    exact ⟨fun e => h (.inl e), fun e => h (.inr e)⟩
  have hpure : ∀ {e : AExit} {tm : T Value} {r : AExit × T Value} {s s' : HS} {n : Nat}, M.pure (e, tm) s = some (r, s') → r.2.get n = tm.get n := by
    intro e tm r s s' n h
    obtain ⟨h, _⟩ := pure_some h
    rw [← h]
  induction c with
  | skip => intro tm r s s' h n hn; exact hpure h
  | ret => intro tm r s s' h n hn; exact hpure h
  | exit id => intro tm r s s' h n hn; exact hpure h
  | region id ops d => intro tm r s s' h n hn; exact region_frame (lf := lf) h hn
  | seq a b iha ihb =>
    intro tm r s s' h n hn
    obtain ⟨h1, h2⟩ := happ (show n ∉ appL (wrL a) (wrL b) from hn)
    obtain ⟨⟨e, tm1⟩, s1, e1, e2⟩ := bind_some (show M.bind (execC a env call lf tm) (seqK (execC b) env call lf) s = _ from h)
    have i1 := iha e1 h1
    cases e with
    | normal => rw [ihb e2 h2]; exact i1
    | exit i => rw [hpure (show M.pure (AExit.exit i, tm1) s1 = _ from e2)]; exact i1
    | ret => rw [hpure (show M.pure (AExit.ret, tm1) s1 = _ from e2)]; exact i1
  | cond c a b iha ihb =>
    intro tm r s s' h n hn
    obtain ⟨h1, h2⟩ := happ (show n ∉ appL (wrL a) (wrL b) from hn)
    have h' : condK (execC a) (execC b) (ev c tm) env call lf tm s = some (r, s') := h
    cases hv : ev c tm with
    | none => rw [hv] at h'; cases h'
    | some v =>
      rw [hv] at h'
      cases v with
      | bool x => cases x with
        | true => exact iha h' h1
        | false => exact ihb h' h2
      | _ => cases h'
  | block id a iha =>
    intro tm r s s' h n hn
    obtain ⟨⟨e, tm1⟩, s1, e1, e2⟩ := bind_some (show M.bind (execC a env call lf tm) (blockK id) s = _ from h)
    have i1 := iha e1 hn
    cases e with
    | normal => rw [hpure (show M.pure (AExit.normal, tm1) s1 = _ from e2)]; exact i1
    | ret => rw [hpure (show M.pure (AExit.ret, tm1) s1 = _ from e2)]; exact i1
    | exit i =>
      have e2' : (match Nat.beq i id with
        | true => M.pure (AExit.normal, tm1)
        | false => M.pure (AExit.exit i, tm1)) s1 = some (r, s') := e2
      cases hb : Nat.beq i id with
      | true => rw [hb] at e2'; rw [hpure e2']; exact i1
      | false => rw [hb] at e2'; rw [hpure e2']; exact i1
  | loop a iha =>
    intro tm r s s' h n hn
    have key : ∀ m {tm : T Value} {r : AExit × T Value} {s s' : HS}, iter (execC a env call lf) m tm s = some (r, s') → r.2.get n = tm.get n := by
      intro m
      induction m with
      | zero => intro tm r s s' h; cases h
      | succ m ih =>
        intro tm r s s' h
        rw [iter_succ] at h
        obtain ⟨⟨e, tm1⟩, s1, e1, e2⟩ := bind_some h
        have i1 := iha e1 (n := n) hn
        cases e with
        | normal => rw [ih (show iter (execC a env call lf) m tm1 s1 = _ from e2)]; exact i1
        | exit i => rw [hpure (show M.pure (AExit.exit i, tm1) s1 = _ from e2)]; exact i1
        | ret => rw [hpure (show M.pure (AExit.ret, tm1) s1 = _ from e2)]; exact i1
    exact key lf h
  | rangeFunc f ps a b _ _ =>
    intro tm r s s' h n hn
    obtain ⟨fv, e0, h⟩ := withO_some (show M.withO (ev f tm) _ s = _ from h)
    obtain ⟨l, s1, e1, h⟩ := bind_some h
    obtain ⟨v, s2, e2, h⟩ := bind_some h
    obtain ⟨o, s3, e3, h⟩ := bind_some h
    cases o with
    | cells a b c d e => cases h
    | map => cases h
    | iter => cases h
    | loop L =>
      obtain ⟨u, s4, e4, h⟩ := bind_some (show M.bind (delObj l) (fun _ => normalT tm) s3 = _ from h)
      exact hpure h
  | scope a _ => intro tm r s s' h; cases h
  | label l => intro tm r s s' h; cases h
  | goto l => intro tm r s s' h; cases h
  | refuse w => intro tm r s s' h; cases h
end
end Go.Ax
