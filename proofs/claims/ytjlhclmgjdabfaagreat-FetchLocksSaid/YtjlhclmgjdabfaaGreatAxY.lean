/- The abstract executor: functions, with ranges over functions; closed runs.
Conditions: none. -/
import Derived.Test.YtjlhclmgjdabfaaGreatAxX
namespace Go.Ax
set_option linter.unusedVariables false
set_option linter.unusedSimpArgs false
set_option linter.unusedSectionVars false
open Go.RowKit (Below)

section
variable {P : Program} {env : Env} {call : CallH}

/-- Code whose ranges over functions hold plain code. -/
def okC : Code → Bool
  | .seq a b => okC a && okC b
  | .cond _ a b => okC a && okC b
  | .block _ a => okC a
  | .loop a => okC a
  | .rangeFunc _ _ a b => plainC a && plainC b
  | _ => true

/-- Blocks for deferred calls have been laid, their marks pushed. -/
inductive Marked (w0 : Base) (ds : List Deferred) : Base → List Deferred → Prop
  | refl : Marked w0 ds w0 ds
  | step (w1 : Base) (ds1 : List Deferred) (k : Nat) (h : Marked w0 ds w1 ds1) (hk : w1.prot k = none) (hB : w0.heap.size ≤ k) :
      Marked w0 ds (w1.add k (.deferred (some []))) ({ target := .collected k, args := #[] } :: ds1)

theorem Marked.same {w0 w1 : Base} {ds ds1 : List Deferred} (h : Marked w0 ds w1 ds1) : w1.toWorld = w0.toWorld := by
  induction h with
  | refl => rfl
  | step w1 ds1 k h hk hB ih => exact ih

theorem Marked.trans {w0 w1 w2 : Base} {ds ds1 ds2 : List Deferred} (h : Marked w0 ds w1 ds1) (h' : Marked w1 ds1 w2 ds2) : Marked w0 ds w2 ds2 := by
  induction h' with
  | refl => exact h
  | step w2 ds2 k _ hk hB ih => exact .step w2 ds2 k ih hk (by rw [← h.same]; exact hB)

def CodePostR (w0 : Base) (φ : Map) (a : Act) (lo hi : Nat) (tm' : T Value) (h : T AObj) (e : AExit) (Q : Exit → Act → World → Prop) : Prop :=
  ∀ φ' a' w' w1, Le φ φ' → Gr φ φ' lo hi → Marked w0 a.defers w1 a'.defers → Rel φ' w1 w' h → TR φ' tm' a'.tmps → a'.tmps.size = a.tmps.size → Q (exitOf e) a' w'

theorem CodePostR.plain {w0 : Base} {φ : Map} {a : Act} {lo hi : Nat} {tm' : T Value} {h : T AObj} {e : AExit} {Q : Exit → Act → World → Prop} (hK : CodePostR w0 φ a lo hi tm' h e Q) : CodePost w0 φ a lo hi tm' h e Q :=
  fun φ' a' w' g1 g2 g3 g4 g5 g6 => hK φ' a' w' w0 g1 g2 (by rw [g6]; exact .refl) g3 g4 g5

theorem sim_range (hC : CallOK P call) {n : Nat} {w0 : Base} (lf : Nat) (g : Operand) (ps : Array Tmp) (x y : Code) (Q : Exit → Act → World → Prop) (tm tm' : T Value) (s s' : HS) (e : AExit) (a : Act) (w : World) (φ : Map)
    (hpx : plainC x = true) (hpy : plainC y = true) (h : execC (.rangeFunc g ps x y) env call lf tm s = some ((e, tm'), s')) (ht : TR φ tm a.tmps) (hr : Rel φ w0 w s.h) (hf : Fr φ s.c s'.c)
    (hlt : codeLt a.tmps.size (.rangeFunc g ps x y) = true) (hK : CodePostR w0 φ a s.c s'.c tm' s'.h e Q) : (Code.rangeFunc g ps x y).wpIn (FW none) n P Q a w := by
  have h0 : M.withO (ev g tm) (fun f => M.bind (newObj (.loop { tmps := tm, params := ps.toList, assign := x, body := y })) fun l =>
    M.bind (callFn call [.func (.yield l) #[] #[]] f) fun _ => M.bind (Ax.getObj l) (rangeK l tm)) s = some ((e, tm'), s') := h
  cases hg : ev g tm with
  | none => rw [hg] at h0; cases h0
  | some fv =>
    rw [hg] at h0
    obtain ⟨l, s1, a1, a2⟩ := bind_some (m := newObj (.loop { tmps := tm, params := ps.toList, assign := x, body := y })) (k := fun l => M.bind (callFn call [.func (.yield l) #[] #[]] fv) fun _ => M.bind (Ax.getObj l) (rangeK l tm)) h0
    rw [newObj_eq] at a1
    injection a1 with a1; injection a1 with e1 e2
    subst e1; subst e2
    obtain ⟨v2, s2, b1, b2⟩ := bind_some (m := callFn call [.func (.yield s.c) #[] #[]] fv) (k := fun _ => M.bind (Ax.getObj s.c) (rangeK s.c tm)) a2
    obtain ⟨o, s2', c1, c2⟩ := bind_some (m := Ax.getObj s.c) (k := rangeK s.c tm) b2
    obtain ⟨e1, hg2⟩ := getObj_some c1
    subst e1
    cases o with
    | cells _ _ _ _ _ => cases c2
    | map => cases c2
    | iter => cases c2
    | loop R2 =>
      obtain ⟨u3, s3, d1, d2⟩ := bind_some (m := delObj s.c) (k := fun _ => normalT tm) c2
      have e3 := delObj_some d1
      subst e3
      injection d2 with d2; injection d2 with e4 e5; injection e4 with e4 e6
      subst e4; subst e5; subst e6
      have hv := ev_VR ht hg
      have m2 := (good_callFn hC.good [.func (.yield s.c) #[] #[]] fv _ _ _ b1).mono
      unfold callFn at b1
      split at b1
      · rename_i f xs ys
        obtain ⟨xs', ys', hx, hy, hu⟩ := func_inv hv
        rw [appL_eq, appL_eq] at b1
        simp only at m2 hf hK b1
        -- the model's side
        have hcn : φ s.c = none := hf s.c (Nat.le_refl _) (by omega)
        unfold codeLt at hlt
        rw [Bool.and_eq_true, Bool.and_eq_true, List.all_eq_true] at hlt
        obtain ⟨⟨hps, hcx⟩, hcy⟩ := hlt
        have hle := put_le (⟨w.heap.size + 1, 0, 0, 0, true⟩ : Pl) hcn
        refine wpIn_rangeFunc fun fn _ => ?_
        have henter := run_enterLoop_outer (P := P) (w := w) fn a.tmps ps x y
        have hsz1 : (w.alloc (.deferred (some []))).heap.size = w.heap.size + 1 := World.size_alloc _ _
        have hd1 : ((w.alloc (.deferred (some []))).alloc (.loop { state := .ready, pending := none, fn := fn, tmps := a.tmps, params := ps, assign := x, body := y, defers := w.heap.size })).heap[w.heap.size]? = some (.deferred (some [])) := by
          rw [Below.heap_alloc _ _ _ (by rw [hsz1]; omega), World.alloc_heap_new]
        have hl1 : ((w.alloc (.deferred (some []))).alloc (.loop { state := .ready, pending := none, fn := fn, tmps := a.tmps, params := ps, assign := x, body := y, defers := w.heap.size })).heap[w.heap.size + 1]? = some (.loop { state := .ready, pending := none, fn := fn, tmps := a.tmps, params := ps, assign := x, body := y, defers := w.heap.size }) := by
          rw [← hsz1, World.alloc_heap_new]
        have r0 := (hr.allocObj (o := .deferred (some [])) (fun _ _ _ h => by cases h)).allocObj (o := .loop { state := .ready, pending := none, fn := fn, tmps := a.tmps, params := ps, assign := x, body := y, defers := w.heap.size }) (fun _ _ _ h => by cases h)
        obtain ⟨W1, hW1⟩ : ∃ W1, W1 = ((w.alloc (.deferred (some []))).alloc (.loop { state := .ready, pending := none, fn := fn, tmps := a.tmps, params := ps, assign := x, body := y, defers := w.heap.size })) := ⟨_, rfl⟩
        rw [← hW1] at henter hd1 hl1 r0
        have hB : w0.heap.size ≤ w.heap.size := hr.below.size
        have hprot : w0.prot w.heap.size = none := hr.prot_lt (Nat.le_refl _)
        have r1 := r0.protect (k := w.heap.size) (o := .deferred (some [])) (.inl rfl) hB hd1
        have r2 := r1.widen hle
        have r3 := r2.setLoop (c := s.c) (p := ⟨w.heap.size + 1, 0, 0, 0, true⟩) (put_self _ _ _) ⟨rfl, rfl, rfl⟩ (Nat.le_succ_of_le hB) hl1 (l := { tmps := tm, params := ps.toList, assign := x, body := y })
          ⟨rfl, rfl, rfl, (fun t ht' => by have := hps t ht'; exact of_decide_eq_true this), rfl, rfl, ht.mono hle, ⟨hpx, hpy⟩, ⟨hcx, hcy⟩⟩ (fun b l' q hb hq hne he => by
            rw [put_ne _ _ hne] at hq
            obtain ⟨q', L', k1, _, k3, _⟩ := hr.loop _ _ hb
            rw [hq] at k1; injection k1 with k1; subst k1
            have := (Array.getElem?_eq_some_iff.1 k3).1
            simp only at he; omega)
        have hargs : VRs (put φ s.c ⟨w.heap.size + 1, 0, 0, 0, true⟩) (xs.toList ++ ([.func (.yield s.c) #[] #[]] ++ ys.toList)) (xs' ++ ([.func (.yield (w.heap.size + 1)) #[] #[]] ++ ys')) :=
          (hx.mono hle).append (VRs.append (.cons (.yield s.c ⟨w.heap.size + 1, 0, 0, 0, true⟩ (put_self _ _ _)) .nil) (hy.mono hle))
        have hfr1 : Fr (put φ s.c ⟨w.heap.size + 1, 0, 0, 0, true⟩) (s.c + 1) s2'.c := hf.after (put_gr _ _ _) (Nat.le_succ _)
        obtain ⟨hcf, hcall⟩ := hC.fn f _ _ v2 s2' (w0.add w.heap.size (.deferred (some []))) _ _ _ (n - 1) none b1 hargs r3 hfr1
        refine ⟨_, _, W1, { target := .fn (.func f) ⟨ys'⟩, args := (⟨xs'⟩ : Array Value) ++ #[.func (.yield (w.heap.size + 1)) #[] #[]] }, W1, f, ⟨xs' ++ ([.func (.yield (w.heap.size + 1)) #[] #[]] ++ ys')⟩, W1, henter, ?_, (fun _ _ => trivial), ?_, (fun h => by simp [FW] at h), ?_⟩
        · unfold resolve
          simp only [rangeCall, hu]
          have hm : (#[Operand.const (Value.func (Fn.yield (w.heap.size + 1)) #[] #[])].map a.eval) = #[Value.func (Fn.yield (w.heap.size + 1)) #[] #[]] := by simp; rfl
          rw [hm]; rfl
        · show Sem.run P (callFunc f ((⟨xs'⟩ : Array Value) ++ #[.func (.yield (w.heap.size + 1)) #[] #[]] ++ ⟨ys'⟩)) _ = _
          have e2 : ((⟨xs'⟩ : Array Value) ++ #[.func (.yield (w.heap.size + 1)) #[] #[]] ++ ⟨ys'⟩) = ⟨xs' ++ ([.func (.yield (w.heap.size + 1)) #[] #[]] ++ ys')⟩ := by apply Array.ext'; simp
          rw [e2]; exact hcf _
        · refine hcall.mono fun en w3 he => ?_
          obtain ⟨u, φ2, e1, j1, j2, j3, _⟩ := he
          subst e1
          obtain ⟨p2, L2, k1, ⟨k2, kd⟩, k3, k4⟩ := j3.loop _ _ hg2
          rw [j1 _ _ (put_self _ _ _)] at k1; injection k1 with k1; subst k1
          refine ⟨_, _, run_endLoop k3 (by rw [k4.state]; intro h; cases h), ?_⟩
          rw [k4.pending]
          have hfree := j3.loop_free hg2 (j1 _ _ (put_self _ _ _))
          have r5 := (j3.del s.c).putObj (o' := .loop { L2 with state := .exhausted }) k3 (fun _ _ _ h => by cases h) (fun _ _ _ h => by cases h) k2 hfree (fun b l' q hb hq => by
            rw [T.get_del] at hb
            by_cases e : b = s.c
            · rw [if_pos e] at hb; cases hb
            · rw [if_neg e] at hb
              exact fun e' => j3.objs b s.c _ _ q _ hb hg2 rfl rfl e hq (j1 _ _ (put_self _ _ _)) e')
          rw [k4.pending] at r5
          refine hK φ2 _ _ (w0.add w.heap.size (.deferred (some []))) (hle.trans j1) ?_ (.step w0 a.defers w.heap.size .refl hprot hB) r5 ((ht.mono hle).mono j1) rfl
          exact (put_gr φ s.c _).trans j2 (Nat.le_succ _) m2
      · cases b1

theorem sim_codeR (hE : EnvOK P env) (hC : CallOK P call) {n : Nat} (lf : Nat) (c : Code) :
    ∀ (w0 : Base) (Q : Exit → Act → World → Prop) (tm tm' : T Value) (s s' : HS) (e : AExit) (a : Act) (w : World) (φ : Map), okC c = true → execC c env call lf tm s = some ((e, tm'), s') → TR φ tm a.tmps → Rel φ w0 w s.h → Fr φ s.c s'.c →
      codeLt a.tmps.size c = true → CodePostR w0 φ a s.c s'.c tm' s'.h e Q → c.wpIn (FW none) n P Q a w := by
  induction c with
  | skip => intro w0 Q tm tm' s s' e a w φ _ h ht hr hf hlt hK; exact sim_code hE hC lf .skip Q tm tm' s s' e a w φ rfl h ht hr hf hlt hK.plain
  | exit id => intro w0 Q tm tm' s s' e a w φ _ h ht hr hf hlt hK; exact sim_code hE hC lf (.exit id) Q tm tm' s s' e a w φ rfl h ht hr hf hlt hK.plain
  | ret => intro w0 Q tm tm' s s' e a w φ _ h ht hr hf hlt hK; exact sim_code hE hC lf .ret Q tm tm' s s' e a w φ rfl h ht hr hf hlt hK.plain
  | region id ops d => intro w0 Q tm tm' s s' e a w φ _ h ht hr hf hlt hK; exact sim_code hE hC lf (.region id ops d) Q tm tm' s s' e a w φ rfl h ht hr hf hlt hK.plain
  | scope x _ => intro w0 Q tm tm' s s' e a w φ _ h; cases h
  | label l => intro w0 Q tm tm' s s' e a w φ _ h; cases h
  | goto l => intro w0 Q tm tm' s s' e a w φ _ h; cases h
  | refuse x => intro w0 Q tm tm' s s' e a w φ _ h; cases h
  | rangeFunc g ps x y _ _ =>
    intro w0 Q tm tm' s s' e a w φ hp h ht hr hf hlt hK
    unfold okC at hp
    rw [Bool.and_eq_true] at hp
    exact sim_range hC lf g ps x y Q tm tm' s s' e a w φ hp.1 hp.2 h ht hr hf hlt hK
  | seq x y ihx ihy =>
    intro w0 Q tm tm' s s' e a w φ hp h ht hr hf hlt hK
    unfold okC at hp
    rw [Bool.and_eq_true] at hp
    unfold codeLt at hlt
    rw [Bool.and_eq_true] at hlt
    obtain ⟨⟨e1, tm1⟩, s1, h1, h2⟩ := bind_some (m := execC x env call lf tm) (k := seqK (execC y) env call lf) h
    have m1 := (good_execC x env hC.good lf tm _ _ _ h1).mono
    have hgk : ∀ q, Good (seqK (execC y) env call lf q) := fun q => by
      unfold seqK; split
      · exact good_execC _ _ hC.good _ _
      · exact good_pure _
    have m2 := (hgk _ _ _ _ h2).mono
    refine wpIn_seq (ihx w0 _ tm tm1 s s1 e1 a w φ hp.1 h1 ht hr (hf.mono (Nat.le_refl _) m2) hlt.1 fun φ1 a1 w1 v1 g1 g2 g6 g3 g4 g5 => ?_)
    cases e1 with
    | normal =>
      exact ihy v1 Q tm1 tm' s1 s' e a1 w1 φ1 hp.2 h2 g4 g3 (hf.after g2 m1) (by rw [g5]; exact hlt.2) fun φ2 a2 w2 v2 k1 k2 k6 k3 k4 k5 =>
        hK φ2 a2 w2 v2 (g1.trans k1) (g2.trans k2 m1 m2) (g6.trans k6) k3 k4 (k5.trans g5)
    | exit i =>
      injection h2 with h2; injection h2 with e1 e2; injection e1 with e1 e3; subst e1; subst e2; subst e3
      exact hK φ1 a1 w1 v1 g1 g2 g6 g3 g4 g5
    | ret =>
      injection h2 with h2; injection h2 with e1 e2; injection e1 with e1 e3; subst e1; subst e2; subst e3
      exact hK φ1 a1 w1 v1 g1 g2 g6 g3 g4 g5
  | cond c x y ihx ihy =>
    intro w0 Q tm tm' s s' e a w φ hp h ht hr hf hlt hK
    unfold okC at hp
    rw [Bool.and_eq_true] at hp
    unfold codeLt at hlt
    rw [Bool.and_eq_true] at hlt
    have h' : condK (execC x) (execC y) (ev c tm) env call lf tm s = some ((e, tm'), s') := h
    cases hc : ev c tm with
    | none => rw [hc] at h'; cases h'
    | some v =>
      rw [hc] at h'
      have hv := ev_VR ht hc
      cases v with
      | bool b =>
        have hb := hv.bool_inv
        cases b with
        | true => exact wpIn_cond_true hb (ihx w0 Q tm tm' s s' e a w φ hp.1 h' ht hr hf hlt.1 hK)
        | false => exact wpIn_cond_false hb (ihy w0 Q tm tm' s s' e a w φ hp.2 h' ht hr hf hlt.2 hK)
      | _ => cases h'
  | block id x ihx =>
    intro w0 Q tm tm' s s' e a w φ hp h ht hr hf hlt hK
    unfold okC at hp
    unfold codeLt at hlt
    obtain ⟨⟨e1, tm1⟩, s1, h1, h2⟩ := bind_some (m := execC x env call lf tm) (k := blockK id) h
    cases e1 with
    | normal =>
      injection h2 with h2; injection h2 with e1 e2; injection e1 with e1 e3; subst e1; subst e2; subst e3
      exact wpIn_block (ihx w0 _ tm tm1 s s1 .normal a w φ hp h1 ht hr hf hlt hK)
    | ret =>
      injection h2 with h2; injection h2 with e1 e2; injection e1 with e1 e3; subst e1; subst e2; subst e3
      exact wpIn_block (ihx w0 _ tm tm1 s s1 .ret a w φ hp h1 ht hr hf hlt hK)
    | exit i =>
      unfold blockK at h2
      simp only at h2
      rw [T.nbeq] at h2
      by_cases hi : i = id
      · rw [decide_eq_true hi] at h2
        injection h2 with h2; injection h2 with e1 e2; injection e1 with e1 e3; subst e1; subst e2; subst e3
        refine wpIn_block (ihx w0 _ tm tm1 s s1 (.exit i) a w φ hp h1 ht hr hf hlt fun φ1 a1 w1 v1 g1 g2 g3 g4 g5 g6 => ?_)
        show if i = id then Q .normal a1 w1 else Q (.exit i) a1 w1
        rw [if_pos hi]
        exact hK φ1 a1 w1 v1 g1 g2 g3 g4 g5 g6
      · rw [decide_eq_false hi] at h2
        injection h2 with h2; injection h2 with e1 e2; injection e1 with e1 e3; subst e1; subst e2; subst e3
        refine wpIn_block (ihx w0 _ tm tm1 s s1 (.exit i) a w φ hp h1 ht hr hf hlt fun φ1 a1 w1 v1 g1 g2 g3 g4 g5 g6 => ?_)
        show if i = id then Q .normal a1 w1 else Q (.exit i) a1 w1
        rw [if_neg hi]
        exact hK φ1 a1 w1 v1 g1 g2 g3 g4 g5 g6
  | loop x ihx =>
    intro w0 Q tm tm' s s' e a w φ hp h ht hr hf hlt hK
    unfold okC at hp
    unfold codeLt at hlt
    have h' : iter (execC x env call lf) lf tm s = some ((e, tm'), s') := h
    refine wpIn_loop_rounds lf ?_
    have key : ∀ (m : Nat) (w0 : Base) (tm : T Value) (s : HS) (a : Act) (w : World) (φ : Map), iter (execC x env call lf) m tm s = some ((e, tm'), s') → TR φ tm a.tmps → Rel φ w0 w s.h → Fr φ s.c s'.c → codeLt a.tmps.size x = true →
        CodePostR w0 φ a s.c s'.c tm' s'.h e Q → Code.roundsIn (FW none) n P x Q m a w := by
      intro m
      induction m with
      | zero => intro w0 tm s a w φ h; rw [iter_zero] at h; cases h
      | succ m ihm =>
        intro w0 tm s a w φ h ht hr hf hlt hK
        rw [iter_succ] at h
        obtain ⟨⟨e1, tm1⟩, s1, h1, h2⟩ := bind_some h
        have m1 := (good_execC x env hC.good lf tm _ _ _ h1).mono
        have hgk : ∀ q, Good (loopK (iter (execC x env call lf) m) q) := fun q => by
          unfold loopK; split
          · exact good_iter (fun tm => good_execC _ _ hC.good _ _) _ _
          · exact good_pure _
        have m2 := (hgk _ _ _ _ h2).mono
        rw [roundsIn_succ]
        refine ihx w0 _ tm tm1 s s1 e1 a w φ hp h1 ht hr (hf.mono (Nat.le_refl _) m2) hlt fun φ1 a1 w1 v1 g1 g2 g6 g3 g4 g5 => ?_
        cases e1 with
        | normal =>
          exact ihm v1 tm1 s1 a1 w1 φ1 h2 g4 g3 (hf.after g2 m1) (by rw [g5]; exact hlt) fun φ2 a2 w2 v2 k1 k2 k6 k3 k4 k5 =>
            hK φ2 a2 w2 v2 (g1.trans k1) (g2.trans k2 m1 m2) (g6.trans k6) k3 k4 (k5.trans g5)
        | exit i =>
          injection h2 with h2; injection h2 with e1 e2; injection e1 with e1 e3; subst e1; subst e2; subst e3
          exact hK φ1 a1 w1 v1 g1 g2 g6 g3 g4 g5
        | ret =>
          injection h2 with h2; injection h2 with e1 e2; injection e1 with e1 e3; subst e1; subst e2; subst e3
          exact hK φ1 a1 w1 v1 g1 g2 g6 g3 g4 g5
    exact key lf w0 tm s a w φ h' ht hr hf hlt hK

/-! ### Functions -/

/-- All functions of the table hold code of the kind that is taken in. -/
def EnvPlain (env : Env) : Prop := ∀ f fn c, env.fn.get f = some fn → fn.body = some c → okC c = true

/-- On the way out: the marks are come to. -/
theorem leaves {fn : Func} {n : Nat} {w0 : Base} {tmps : Array Value} {R : Ending → World → Prop} {φ : Map} {h : T AObj} : ∀ {w1 : Base} {ds : List Deferred}, Marked w0 [] w1 ds → ∀ {w : World}, Rel φ w1 w h →
    (∀ w, Rel φ w0 w h → ∃ v, (results fn tmps).run P w = .ok v w ∧ R (.returned v) w) → LeavesInM (FW none) n P fn tmps R ds .returning w := by
  intro w1 ds hm
  induction hm with
  | refl => intro w r hK; exact hK w r
  | step w1 ds1 k hm hk hB ih =>
    intro w r hK
    have hd := r.prot_self
    refine ⟨(fun h => by cases h), .inl ⟨k, _, rfl, run_takeDeferred hd, ?_⟩⟩
    refine ih ((r.unprotect hk).putObj hd (fun _ _ _ h => by cases h) (fun _ _ _ h => by cases h) (by rw [hm.same]; exact hB) hk ?_) hK
    exact r.noLoopAt hd (fun L h => by cases h)

theorem sim_fn (hE : EnvOK P env) (hp : EnvPlain env) (hC : CallOK P call) {r : Option Nat} {n : Nat} {w0 : Base} {w : World} (lf : Nat) (f : Nat) (args us : List Value) (s s' : HS) (v : Value) (φ : Map)
    (h : callK env lf call (.fn f) args s = some (v, s')) (hv : VRs φ args us) (hr : Rel φ w0 w s.h) (hf : Fr φ s.c s'.c) :
    (∀ w, (callFunc f ⟨us⟩).run P w = .ok (.enter f ⟨us⟩) w) ∧ CallsIn (FW r) n P f ⟨us⟩ w (CallPost w0 φ s.c s'.c v s'.h) := by
  have h' : M.withO (env.fn.get f) (runFn env lf call args) s = some (v, s') := h
  cases hfn : env.fn.get f with
  | none => rw [hfn] at h'; cases h'
  | some fn =>
    rw [hfn] at h'
    have hF := hE.fn f fn hfn
    refine ⟨fun w => hF.call _ w, ?_⟩
    have h2 : runFn env lf call args fn s = some (v, s') := h'
    unfold runFn at h2
    cases hb : fn.body with
    | none => rw [hb] at h2; cases h2
    | some c =>
      rw [hb] at h2
      simp only at h2
      rw [lenL_eq, nble] at h2
      by_cases hn : args.length ≤ fn.ntmps
      · rw [decide_eq_true hn] at h2
        simp only at h2
        obtain ⟨⟨e, tm'⟩, s1, h3, h4⟩ := bind_some h2
        have m1 := (good_execC c env hC.good lf _ _ _ _ h3).mono
        have hgk : Good (bodyK env fn.results.toList (e, tm')) := by
          unfold bodyK; split
          · exact good_bind (good_resM _ _ _) fun _ => good_tupleOf _
          · exact good_bind (good_resM _ _ _) fun _ => good_tupleOf _
          · exact good_fail
        have m2 := (hgk _ _ _ h4).mono
        have hl := hv.length
        have hsz : ((⟨us⟩ : Array Value) ++ Array.replicate (fn.ntmps - us.length) undef).size = fn.ntmps := by simp; omega
        show CallsIn (FW none) n P f ⟨us⟩ w _
        refine callsIn_of_wp_marks hF.at_ hb trivial ?_ rfl
        refine sim_codeR hE hC lf c w0 _ (T.ofList args) tm' s s1 e _ w φ (hp f fn c hfn hb) h3 (TR.init hv _) hr (hf.mono (Nat.le_refl _) m2) (by show codeLt ((⟨us⟩ : Array Value) ++ Array.replicate (fn.ntmps - us.length) undef).size c = true; rw [hsz]; exact hF.lt c hb) fun φ1 a1 w1 v1 g1 g2 g6 g3 g4 g5 => ?_
        have fin : M.bind (resM env tm' fn.results.toList) tupleOf s1 = some (v, s') → LeavesInM (FW none) n P fn a1.tmps (CallPost w0 φ s.c s'.c v s'.h) a1.defers .returning w1 := by
          intro h5
          obtain ⟨vs, s2, h6, h7⟩ := bind_some h5
          have hm3 := (good_tupleOf vs _ _ _ h7).mono
          have hs2 : s1.h = s1.h := rfl
          refine leaves g6 g3 fun w3 r3 => ?_
          obtain ⟨rs, w2, φ2, k1, k2, k3, k4, k5⟩ := sim_resM hE fn.results.toList g4 s1 w3 vs s2 h6 r3 ((hf.after g2 m1).mono (Nat.le_refl _) hm3)
          obtain ⟨e1, e2⟩ := tuple_VR k5 _ _ _ h7
          have e3 : w2 = w3 := Keeps.mapM (P := P) (fun r => by
            cases r with
            | tmp t => exact Keeps.pure _
            | cell a t => exact Keeps.bind (Keeps.asAddr _) fun _ => Keeps.loadVar _ _) fn.results.toList _ _ _ k1
          rw [e3] at k1 k4
          subst e1
          refine ⟨_, ?_, _, φ2, rfl, g1.trans k2, g2.trans k3 m1 m2, k4, e2⟩
          unfold results
          rw [Sem.run_bind, Array.mapM_eq_mapM_toList, Sem.run_map]
          exact (congrArg (fun q : Result (List Value) => (q.andThen fun a w' => Result.ok a.toArray w').andThen fun a w' => Sem.run P (Pure.pure (if h : a.size = 1 then a[0] else Value.tuple a)) w') k1).trans rfl
        cases e with
        | normal => exact fin h4
        | ret => exact fin h4
        | exit i => cases h4
      · rw [decide_eq_false hn] at h2; cases h2

theorem callN_ok (hE : EnvOK P env) (hp : EnvPlain env) (lf : Nat) : ∀ n, CallOK P (callN env lf n)
  | 0 => ⟨fun t args => good_fail, (fun f args s v s' w0 w φ us n r h => by cases h), (fun l args s v s' w0 w φ us n r p h => by cases h)⟩
  | n + 1 => by
    have ih := callN_ok hE hp lf n
    exact ⟨good_callN env lf (n + 1), (fun f args s v s' w0 w φ us m r h hv hr hf => sim_fn hE hp ih lf f args us s s' v φ h hv hr hf),
      (fun l args s v s' w0 w φ us m r p h hp hv hr hf => sim_yield hE ih lf l args us s s' v φ p h hp hv hr hf)⟩

/-- A world to measure by, with no block set apart. -/
def baseOf (w : World) : Base := { toWorld := w, prot := fun _ => none }

theorem Rel.start (w : World) : Rel (fun _ => none) (baseOf w) w .nil :=
  ⟨Below.refl _ _, (fun b size es tight ro cs h => by cases h), (fun b b' s e t cs s' e' t' r' cs' p p' h => by cases h), (fun b r h => by cases h),
    (fun k o h => by cases h), (fun b b' o o' p p' h => by cases h), (fun b o h => by cases h)⟩

/-- A closed run of a function, told by the executor, holds of the model, in every world and with every tape. -/
theorem closed_run (hE : EnvOK P env) (hp : EnvPlain env) (lf n f : Nat) (h : isTrue (callN env lf n (.fn f) [] s0) = true) (w : World) :
    Calls P f #[] w fun e w' => e = .returned (.bool true) ∧ Below w.heap.size w w' := by
  unfold isTrue at h
  cases hr : callN env lf n (.fn f) [] s0 with
  | none => rw [hr] at h; cases h
  | some q =>
    obtain ⟨v, s'⟩ := q
    rw [hr] at h
    have hv : v = .bool true := by
      cases v with
      | bool b => cases b with
        | true => rfl
        | false => cases h
      | _ => cases h
    subst hv
    have := ((callN_ok hE hp lf n).fn f [] s0 _ s' (baseOf w) w (fun _ => none) [] 0 none hr .nil (Rel.start w) (fun _ _ _ => rfl)).2
    rw [FW_none] at this
    refine (callsIn_wide.1 this).mono fun e w' he => ?_
    obtain ⟨u, φ', e1, _, _, r1, v1⟩ := he
    exact ⟨by rw [e1, v1.bool_inv], r1.below⟩
end
end Go.Ax
