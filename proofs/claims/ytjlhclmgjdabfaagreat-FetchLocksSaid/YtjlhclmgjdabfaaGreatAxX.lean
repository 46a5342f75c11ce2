/- The abstract executor: code and functions.
Conditions: none. -/
import Derived.LoopNIn
import Derived.Test.YtjlhclmgjdabfaaGreatAxR2
namespace Go.Ax
set_option linter.unusedVariables false
set_option linter.unusedSimpArgs false
set_option linter.unusedSectionVars false
open Go.RowKit (Below)

section
variable {P : Program} {env : Env} {call : CallH}

def exitOf : AExit → Exit
  | .normal => .normal
  | .exit i => .exit i
  | .ret => .ret

/-- What a piece of code leaves behind. -/
def CodePost (w0 : Base) (φ : Map) (a : Act) (lo hi : Nat) (tm' : T Value) (h : T AObj) (e : AExit) (Q : Exit → Act → World → Prop) : Prop :=
  ∀ φ' a' w', Le φ φ' → Gr φ φ' lo hi → Rel φ' w0 w' h → TR φ' tm' a'.tmps → a'.tmps.size = a.tmps.size → a'.defers = a.defers → Q (exitOf e) a' w'

theorem sim_ops (hE : EnvOK P env) (hC : CallOK P call) {r : Option Nat} {n : Nat} {w0 : Base} (ops : Array Oper) {Q : Exit → Act → World → Prop} (tm' : T Value) (s' : HS) :
    ∀ (l : List Oper) (k : Nat) (tm : T Value) (s : HS) (a : Act) (w : World) (φ : Map), ops.toList.drop k = l → execOps ops.toList l env call tm s = some (tm', s') → TR φ tm a.tmps → Rel φ w0 w s.h → Fr φ s.c s'.c →
      opsLt a.tmps.size ops.toList = true → CodePost w0 φ a s.c s'.c tm' s'.h .normal Q → wpOpsIn (FW r) n P ops Q (List.range' k l.length) a w
  | [], k, tm, s, a, w, φ, _, h, ht, hr, hf, _, hK => by
    rw [execOps_nil] at h
    injection h with h; injection h with e1 e2; subst e1; subst e2
    exact hK φ a w (Le.refl _) (Gr.refl _ _ _) hr ht rfl rfl
  | o :: l, k, tm, s, a, w, φ, hl, h, ht, hr, hf, hlt, hK => by
    rw [execOps_cons] at h
    obtain ⟨tm1, s1, h1, h2⟩ := bind_some h
    have m1 := (good_stepOp ops.toList o env hC.good tm _ _ _ h1).mono
    have m2 := (good_execOps ops.toList l env hC.good tm1 _ _ _ h2).mono
    rw [List.length_cons, List.range'_succ, wpOpsIn_cons]
    have hk : ops.toList[k]? = some o := by
      have := congrArg (fun l => l[0]?) hl
      simpa using this
    have hd : dstLt a.tmps.size o.dst = true := by
      unfold opsLt at hlt
      rw [List.all_eq_true] at hlt
      exact hlt o (List.mem_of_getElem? hk)
    refine sim_step hE hC ops k o (by simpa using hk) h1 ht hd hr (hf.mono (Nat.le_refl _) m2) fun φ1 a1 w1 g1 g2 g3 g4 g5 g6 => ?_
    refine sim_ops hE hC ops tm' s' l (k + 1) tm1 s1 a1 w1 φ1 ?_ h2 g4 g3 (hf.after g2 m1) (by rw [g5]; exact hlt) fun φ2 a2 w2 k1 k2 k3 k4 k5 k6 => ?_
    · have := congrArg (List.drop 1) hl
      simpa using this
    · exact hK φ2 a2 w2 (g1.trans k1) (g2.trans k2 m1 m2) k3 k4 (k5.trans g5) (k6.trans g6)

theorem sim_code (hE : EnvOK P env) (hC : CallOK P call) {r : Option Nat} {n : Nat} {w0 : Base} (lf : Nat) (c : Code) :
    ∀ (Q : Exit → Act → World → Prop) (tm tm' : T Value) (s s' : HS) (e : AExit) (a : Act) (w : World) (φ : Map), plainC c = true → execC c env call lf tm s = some ((e, tm'), s') → TR φ tm a.tmps → Rel φ w0 w s.h → Fr φ s.c s'.c →
      codeLt a.tmps.size c = true → CodePost w0 φ a s.c s'.c tm' s'.h e Q → c.wpIn (FW r) n P Q a w := by
  induction c with
  | skip =>
    intro Q tm tm' s s' e a w φ _ h ht hr hf _ hK
    injection h with h; injection h with e1 e2; injection e1 with e1 e3; subst e1; subst e2; subst e3
    exact wpIn_skip (hK φ a w (Le.refl _) (Gr.refl _ _ _) hr ht rfl rfl)
  | exit id =>
    intro Q tm tm' s s' e a w φ _ h ht hr hf _ hK
    injection h with h; injection h with e1 e2; injection e1 with e1 e3; subst e1; subst e2; subst e3
    exact wpIn_exit (hK φ a w (Le.refl _) (Gr.refl _ _ _) hr ht rfl rfl)
  | ret =>
    intro Q tm tm' s s' e a w φ _ h ht hr hf _ hK
    injection h with h; injection h with e1 e2; injection e1 with e1 e3; subst e1; subst e2; subst e3
    exact wpIn_ret (hK φ a w (Le.refl _) (Gr.refl _ _ _) hr ht rfl rfl)
  | region id ops d =>
    intro Q tm tm' s s' e a w φ _ h ht hr hf hlt hK
    cases d with
    | false =>
      obtain ⟨tm1, s1, h1, h2⟩ := bind_some (m := execOps ops.toList ops.toList env call tm) (k := normalT) h
      injection h2 with h2; injection h2 with e1 e2; injection e1 with e1 e3; subst e1; subst e2; subst e3
      have := sim_ops hE hC (r := r) (n := n) (Q := Q) ops tm1 s1 ops.toList 0 tm s a w φ (by simp) h1 ht hr hf hlt hK
      refine wpIn_region ?_
      rw [List.range_eq_range']
      simpa using this
    | true =>
      obtain ⟨tm1, s1, h1, h2⟩ := bind_some (m := drawK ops.toList (planOf env ops.toList) (okPlan env ops.toList (planOf env ops.toList)) env call tm) (k := normalT) h
      injection h2 with h2; injection h2 with e1 e2; injection e1 with e1 e3; subst e1; subst e2; subst e3
      cases hok : okPlan env ops.toList (planOf env ops.toList) with
      | false => rw [hok] at h1; cases h1
      | true =>
        rw [hok] at h1
        exact sim_drawn hE hC id ops hok h1 hE.mixed hr ht hlt hf hK
  | seq x y ihx ihy =>
    intro Q tm tm' s s' e a w φ hp h ht hr hf hlt hK
    unfold plainC at hp
    rw [Bool.and_eq_true] at hp
    unfold codeLt at hlt
    rw [Bool.and_eq_true] at hlt
    obtain ⟨⟨e1, tm1⟩, s1, h1, h2⟩ := bind_some (m := execC x env call lf tm) (k := seqK (execC y) env call lf) h
    have m1 := (good_execC x env hC.good lf tm _ _ _ h1).mono
    have hgk : ∀ q, Good (seqK (execC y) env call lf q) := fun q => by
      unfold seqK; split
      · exact good_execC _ _ hC.good _ _
      · exact good_pure _
    have m2 := (hgk _ _ _ _ h2).mono
    refine wpIn_seq (ihx _ tm tm1 s s1 e1 a w φ hp.1 h1 ht hr (hf.mono (Nat.le_refl _) m2) hlt.1 fun φ1 a1 w1 g1 g2 g3 g4 g5 g6 => ?_)
    cases e1 with
    | normal =>
      exact ihy Q tm1 tm' s1 s' e a1 w1 φ1 hp.2 h2 g4 g3 (hf.after g2 m1) (by rw [g5]; exact hlt.2) fun φ2 a2 w2 k1 k2 k3 k4 k5 k6 =>
        hK φ2 a2 w2 (g1.trans k1) (g2.trans k2 m1 m2) k3 k4 (k5.trans g5) (k6.trans g6)
    | exit i =>
      injection h2 with h2; injection h2 with e1 e2; injection e1 with e1 e3; subst e1; subst e2; subst e3
      exact hK φ1 a1 w1 g1 g2 g3 g4 g5 g6
    | ret =>
      injection h2 with h2; injection h2 with e1 e2; injection e1 with e1 e3; subst e1; subst e2; subst e3
      exact hK φ1 a1 w1 g1 g2 g3 g4 g5 g6
  | cond c x y ihx ihy =>
    intro Q tm tm' s s' e a w φ hp h ht hr hf hlt hK
    unfold plainC at hp
    rw [Bool.and_eq_true] at hp
    unfold codeLt at hlt
    rw [Bool.and_eq_true] at hlt
    have h' : condK (execC x) (execC y) (ev c tm) env call lf tm s = some ((e, tm'), s') := h
    cases hc : ev c tm with
    | none => rw [hc] at h'; cases h'
    | some v =>
      rw [hc] at h'
      have hv := ev_VR ht hc
      cases v with
      | bool b =>
        have hb := hv.bool_inv
        cases b with
        | true => exact wpIn_cond_true hb (ihx Q tm tm' s s' e a w φ hp.1 h' ht hr hf hlt.1 hK)
        | false => exact wpIn_cond_false hb (ihy Q tm tm' s s' e a w φ hp.2 h' ht hr hf hlt.2 hK)
      | _ => cases h'
  | block id x ihx =>
    intro Q tm tm' s s' e a w φ hp h ht hr hf hlt hK
    unfold plainC at hp
    unfold codeLt at hlt
    obtain ⟨⟨e1, tm1⟩, s1, h1, h2⟩ := bind_some (m := execC x env call lf tm) (k := blockK id) h
    cases e1 with
    | normal =>
      injection h2 with h2; injection h2 with e1 e2; injection e1 with e1 e3; subst e1; subst e2; subst e3
      exact wpIn_block (ihx _ tm tm1 s s1 .normal a w φ hp h1 ht hr hf hlt hK)
    | ret =>
      injection h2 with h2; injection h2 with e1 e2; injection e1 with e1 e3; subst e1; subst e2; subst e3
      exact wpIn_block (ihx _ tm tm1 s s1 .ret a w φ hp h1 ht hr hf hlt hK)
    | exit i =>
      unfold blockK at h2
      simp only at h2
      rw [T.nbeq] at h2
      by_cases hi : i = id
      · rw [decide_eq_true hi] at h2
        injection h2 with h2; injection h2 with e1 e2; injection e1 with e1 e3; subst e1; subst e2; subst e3
        refine wpIn_block (ihx _ tm tm1 s s1 (.exit i) a w φ hp h1 ht hr hf hlt fun φ1 a1 w1 g1 g2 g3 g4 g5 g6 => ?_)
        show if i = id then Q .normal a1 w1 else Q (.exit i) a1 w1
        rw [if_pos hi]
        exact hK φ1 a1 w1 g1 g2 g3 g4 g5 g6
      · rw [decide_eq_false hi] at h2
        injection h2 with h2; injection h2 with e1 e2; injection e1 with e1 e3; subst e1; subst e2; subst e3
        refine wpIn_block (ihx _ tm tm1 s s1 (.exit i) a w φ hp h1 ht hr hf hlt fun φ1 a1 w1 g1 g2 g3 g4 g5 g6 => ?_)
        show if i = id then Q .normal a1 w1 else Q (.exit i) a1 w1
        rw [if_neg hi]
        exact hK φ1 a1 w1 g1 g2 g3 g4 g5 g6
  | loop x ihx =>
    intro Q tm tm' s s' e a w φ hp h ht hr hf hlt hK
    unfold plainC at hp
    unfold codeLt at hlt
    have h' : iter (execC x env call lf) lf tm s = some ((e, tm'), s') := h
    refine wpIn_loop_rounds lf ?_
    have key : ∀ (m : Nat) (tm : T Value) (s : HS) (a : Act) (w : World) (φ : Map), iter (execC x env call lf) m tm s = some ((e, tm'), s') → TR φ tm a.tmps → Rel φ w0 w s.h → Fr φ s.c s'.c → codeLt a.tmps.size x = true →
        CodePost w0 φ a s.c s'.c tm' s'.h e Q → Code.roundsIn (FW r) n P x Q m a w := by
      intro m
      induction m with
      | zero => intro tm s a w φ h; rw [iter_zero] at h; cases h
      | succ m ihm =>
        intro tm s a w φ h ht hr hf hlt hK
        rw [iter_succ] at h
        obtain ⟨⟨e1, tm1⟩, s1, h1, h2⟩ := bind_some h
        have m1 := (good_execC x env hC.good lf tm _ _ _ h1).mono
        have hgk : ∀ q, Good (loopK (iter (execC x env call lf) m) q) := fun q => by
          unfold loopK; split
          · exact good_iter (fun tm => good_execC _ _ hC.good _ _) _ _
          · exact good_pure _
        have m2 := (hgk _ _ _ _ h2).mono
        rw [roundsIn_succ]
        refine ihx _ tm tm1 s s1 e1 a w φ hp h1 ht hr (hf.mono (Nat.le_refl _) m2) hlt fun φ1 a1 w1 g1 g2 g3 g4 g5 g6 => ?_
        cases e1 with
        | normal =>
          exact ihm tm1 s1 a1 w1 φ1 h2 g4 g3 (hf.after g2 m1) (by rw [g5]; exact hlt) fun φ2 a2 w2 k1 k2 k3 k4 k5 k6 =>
            hK φ2 a2 w2 (g1.trans k1) (g2.trans k2 m1 m2) k3 k4 (k5.trans g5) (k6.trans g6)
        | exit i =>
          injection h2 with h2; injection h2 with e1 e2; injection e1 with e1 e3; subst e1; subst e2; subst e3
          exact hK φ1 a1 w1 g1 g2 g3 g4 g5 g6
        | ret =>
          injection h2 with h2; injection h2 with e1 e2; injection e1 with e1 e3; subst e1; subst e2; subst e3
          exact hK φ1 a1 w1 g1 g2 g3 g4 g5 g6
    exact key lf tm s a w φ h' ht hr hf hlt hK
  | rangeFunc f ps x y _ _ => intro Q tm tm' s s' e a w φ hp; cases hp
  | scope x _ => intro Q tm tm' s s' e a w φ _ h; cases h
  | label l => intro Q tm tm' s s' e a w φ _ h; cases h
  | goto l => intro Q tm tm' s s' e a w φ _ h; cases h
  | refuse x => intro Q tm tm' s s' e a w φ _ h; cases h

/-! ### Functions -/

/-- A step of the model that leaves the world as it is. -/
def Keeps {α : Type} (P : Program) (c : Sem α) : Prop := ∀ w u w', c.run P w = .ok u w' → w' = w
theorem Keeps.pure {α : Type} (a : α) : Keeps P (Pure.pure a : Sem α) := fun w u w' h => by injection h with _ h; exact h.symm
theorem Keeps.bind {α β : Type} {c : Sem α} {k : α → Sem β} (h : Keeps P c) (h' : ∀ a, Keeps P (k a)) : Keeps P (c >>= k) := fun w u w' e => by
  rw [Sem.run_bind] at e
  cases hc : c.run P w with
  | ok a w1 =>
    rw [hc] at e
    have e1 := h _ _ _ hc
    subst e1
    exact h' a _ _ _ e
  | halt x w1 => rw [hc] at e; cases e
theorem Keeps.map {α β : Type} {c : Sem α} {f : α → β} (h : Keeps P c) : Keeps P (f <$> c) := fun w u w' e => by
  rw [Sem.run_map] at e
  cases hc : c.run P w with
  | ok a w1 => rw [hc] at e; injection e with _ e; rw [← e]; exact h _ _ _ hc
  | halt x w1 => rw [hc] at e; cases e
theorem Keeps.load (x : Addr) : Keeps P (load x) := fun w u w' e => by
  unfold Go.load Sem.run at e
  split at e
  · injection e with _ e; exact e.symm
  · split at e
    · injection e with _ e; exact e.symm
    · cases e
theorem Keeps.stuck {α : Type} (s : String) : Keeps P (stuck s : Sem α) := fun w u w' e => by cases e
theorem Keeps.underlying (t : TypeId) : Keeps P (underlying t) := Keeps.bind (fun w u w' e => by injection e with _ e; exact e.symm) fun p => by
  split
  · exact Keeps.pure _
  · exact Keeps.stuck _
theorem Keeps.loadCells (x : Addr) : ∀ (n i : Nat) (acc : Array Value), Keeps P (loadCellsFrom x i n acc)
  | 0, i, acc => Keeps.pure _
  | n + 1, i, acc => Keeps.bind (Keeps.load _) fun _ => Keeps.loadCells x n _ _
theorem Keeps.isAgg (t : TypeId) : Keeps P (isAgg t) := Keeps.bind (Keeps.underlying t) fun d => by cases d <;> exact Keeps.pure _
theorem Keeps.sizeOf (t : TypeId) : Keeps P (sizeOf t) := Keeps.bind (Keeps.bind (fun w u w' e => by injection e with _ e; exact e.symm) fun p => by
  split
  · exact Keeps.pure _
  · exact Keeps.stuck _) fun _ => Keeps.pure _
theorem Keeps.loadVar (t : TypeId) (x : Addr) : Keeps P (loadVar t x) := Keeps.bind (Keeps.isAgg t) fun b => by
  cases b with
  | true => exact Keeps.bind (Keeps.sizeOf t) fun n => Keeps.bind (Keeps.loadCells x n 0 #[]) fun _ => Keeps.pure _
  | false => exact Keeps.load x
theorem Keeps.asAddr (v : Value) : Keeps P (asAddr v) := fun w u w' e => by
  unfold Go.asAddr at e
  split at e
  · injection e with _ e; exact e.symm
  · cases e
  · cases e
theorem Keeps.mapM {α β : Type} {f : α → Sem β} (h : ∀ a, Keeps P (f a)) : ∀ (l : List α), Keeps P (l.mapM f)
  | [] => by rw [List.mapM_nil]; exact Keeps.pure _
  | a :: l => by rw [List.mapM_cons]; exact Keeps.bind (h a) fun _ => Keeps.bind (Keeps.mapM h l) fun _ => Keeps.pure _

theorem sim_resM (hE : EnvOK P env) {w0 : Base} {tm : T Value} {tmps : Array Value} : ∀ (l : List ResultVar) {φ : Map}, TR φ tm tmps →
    Sim P w0 φ (resM env tm l) (l.mapM fun | .tmp t => pure (tmps.getD t undef) | .cell a t => do loadVar t (← asAddr (tmps.getD a undef)) : Sem (List Value)) (fun ψ vs us => VRs ψ vs us)
  | [], φ, _ => by rw [List.mapM_nil]; exact Sim.pure .nil
  | .tmp t :: l, φ, ht => by
    rw [List.mapM_cons]
    show Sim P w0 φ (M.withO (evT (tm.get t)) fun v => mapM (fun vs => v :: vs) (resM env tm l)) _ _
    refine Sim.withO fun v hv => ?_
    refine Sim.look (a := tmps.getD t undef) (fun w => rfl) ?_
    have hvr : VR φ v (tmps.getD t undef) := by
      have : ev (.tmp t) tm = some v := hv
      exact ev_VR (a := ⟨tmps, []⟩) ht this
    exact Sim.mapM (good_resM _ _ _) (sim_resM hE l ht) fun ψ vs us hl h => Sim.pure (.cons (hvr.mono hl) h)
  | .cell a t :: l, φ, ht => by
    rw [List.mapM_cons]
    show Sim P w0 φ (M.withO (env.ty.get t) fun ti => M.withO (evT (tm.get a)) fun p => M.bind (ptrK (loadV ti) p) fun v => mapM (fun vs => v :: vs) (resM env tm l)) _ _
    refine Sim.withO fun ti hti => Sim.withO fun v hv => ?_
    have hvr : VR φ v (tmps.getD a undef) := by
      have : ev (.tmp a) tm = some v := hv
      exact ev_VR (a := ⟨tmps, []⟩) ht this
    refine Sim.bind (good_ptrK (fun _ => good_loadV _ _) _) (fun _ => good_mapM (good_resM _ _ _)) (R := RVal) ?_ fun ψ v u hl hvu => Sim.mapM (good_resM _ _ _) (sim_resM hE l (ht.mono hl)) fun χ vs us hl' h => Sim.pure (.cons (hvu.mono hl') h)
    unfold ptrK
    split
    · rename_i x
      obtain ⟨b, off, p, rfl, hp, hy⟩ := ptr_spot hvr
      show Sim P w0 φ _ (asAddr (tmps.getD a undef) >>= fun x => loadVar t x) _
      rw [hy]
      exact Sim.look (a := _) (fun w => rfl) (sim_loadVar hE hti (.ptr b off p hp))
    · exact Sim.fail

theorem tuple_VR {φ : Map} {vs us : List Value} (h : VRs φ vs us) (s s' : HS) (v : Value) (hv : tupleOf vs s = some (v, s')) : s' = s ∧ VR φ v (if h : us.toArray.size = 1 then us.toArray[0] else .tuple us.toArray) := by
  cases h with
  | nil => injection hv with hv; injection hv with e1 e2; subst e1; exact ⟨e2.symm, .tuple [] [] .nil⟩
  | cons h1 h2 =>
    cases h2 with
    | nil => injection hv with hv; injection hv with e1 e2; subst e1; exact ⟨e2.symm, h1⟩
    | cons h3 h4 =>
      injection hv with hv; injection hv with e1 e2; subst e1
      refine ⟨e2.symm, ?_⟩
      rw [dif_neg (by simp)]
      exact .tuple _ _ (.cons h1 (.cons h3 h4))

theorem TR.init {φ : Map} {args us : List Value} (h : VRs φ args us) (n : Nat) : TR φ (T.ofList args) ((⟨us⟩ : Array Value) ++ Array.replicate (n - us.length) undef) := by
  have hl := h.length
  constructor
  · intro t v hv
    rw [T.get_ofList] at hv
    have ht : t < args.length := (List.getElem?_eq_some_iff.1 hv).1
    obtain ⟨u, hu, hr⟩ := h.get hv
    refine ⟨u, ?_, hr⟩
    rw [Array.getElem?_append_left (by simp; omega)]
    simpa using hu
  · intro t hv
    rw [T.get_ofList] at hv
    have ht : args.length ≤ t := List.getElem?_eq_none_iff.1 hv
    rw [Array.getD_eq_getD_getElem?, Array.getElem?_append_right (by simp; omega), Array.getElem?_replicate]
    split <;> rfl


/-! ### Rounds -/

theorem setTs_spec {φ : Map} : ∀ (ps : List Tmp) (vs us : List Value) (tm tm' : T Value) (tmps : Array Value), setTs ps vs tm = some tm' → VRs φ vs us → TR φ tm tmps → (∀ t ∈ ps, t < tmps.size) →
    ps.length = us.length ∧ TR φ tm' ((ps.zip us).foldl (fun tmps (t, a) => tmps.setIfInBounds t a) tmps) ∧ ((ps.zip us).foldl (fun tmps (t, a) => tmps.setIfInBounds t a) tmps).size = tmps.size
  | [], [], us, tm, tm', tmps, h, hv, ht, _ => by
    cases hv; injection h with h; subst h; exact ⟨rfl, ht, rfl⟩
  | [], v :: vs, us, tm, tm', tmps, h, _, _, _ => by cases h
  | p :: ps, [], us, tm, tm', tmps, h, _, _, _ => by cases h
  | p :: ps, v :: vs, us, tm, tm', tmps, h, hv, ht, hlt => by
    cases hv with
    | cons h1 h2 =>
      rename_i u us
      have hput := ht.put (d := some p) h1 (by unfold dstLt; exact decide_eq_true (hlt p List.mem_cons_self))
      have hsz : (({ tmps := tmps, defers := [] } : Act).put (some p) u).tmps.size = tmps.size := put_size _ _ _
      obtain ⟨k1, k2, k3⟩ := setTs_spec ps vs us (tm.set p v) tm' (({ tmps := tmps, defers := [] } : Act).put (some p) u).tmps h h2 hput (fun t ht => by rw [hsz]; exact hlt t (List.mem_cons_of_mem _ ht))
      exact ⟨by simp [k1], k2, k3.trans hsz⟩

theorem Rel.noLoopAt {φ : Map} {w0 : Base} {w : World} {h : T AObj} (r : Rel φ w0 w h) {k : Nat} {o : Obj} (hk : w.heap[k]? = some o) (ho : ∀ L, o = .loop L → L.state ≠ .ready) (b : Nat) (l : LoopR) (p : Pl) (hb : h.get b = some (.loop l)) (hp : φ b = some p) : p.blk ≠ k := by
  obtain ⟨q, L, h1, _, h3, h4⟩ := r.loop _ _ hb
  rw [hp] at h1; injection h1 with h1; subst h1
  intro e
  rw [e, hk] at h3; injection h3 with h3
  exact ho L h3 h4.state

theorem setObj_some {b : Nat} {o : AObj} {s s' : HS} {u : Unit} (h : setObj b o s = some (u, s')) : s' = { h := s.h.set b o, c := s.c, log := b :: s.log } := by
  unfold Ax.setObj setR at h
  cases hg : s.h.get b with
  | none => rw [hg] at h; cases h
  | some o' => rw [hg] at h; injection h with h; injection h with _ h; exact h.symm
theorem delObj_some {b : Nat} {s s' : HS} {u : Unit} (h : delObj b s = some (u, s')) : s' = { h := s.h.del b, c := s.c, log := b :: s.log } := by
  unfold Ax.delObj delR at h
  cases hg : s.h.get b with
  | none => rw [hg] at h; cases h
  | some o' => rw [hg] at h; injection h with h; injection h with _ h; exact h.symm
theorem getObj_some {b : Nat} {s s' : HS} {o : AObj} (h : Ax.getObj b s = some (o, s')) : s' = s ∧ s.h.get b = some o := by
  unfold Ax.getObj getR at h
  cases hg : s.h.get b with
  | none => rw [hg] at h; cases h
  | some o' => rw [hg] at h; injection h with h; injection h with h1 h; exact ⟨h.symm, by rw [h1]⟩

theorem sim_yield (hE : EnvOK P env) (hC : CallOK P call) {r : Option Nat} {n : Nat} {w0 : Base} {w : World} (lf : Nat) (l : Nat) (args us : List Value) (s s' : HS) (v : Value) (φ : Map) (p : Pl)
    (h : callK env lf call (.yield l) args s = some (v, s')) (hp : φ l = some p) (hv : VRs φ args us) (hr : Rel φ w0 w s.h) (hf : Fr φ s.c s'.c) :
    ∃ fn tmps assign body, (Instr.yield p.blk ⟨us⟩).run P w = .ok (.round p.blk fn tmps assign body) w ∧ RoundIn (FW r) n P p.blk fn tmps assign body w (CallPost w0 φ s.c s'.c v s'.h) := by
  obtain ⟨o, s0, h1, h2⟩ := bind_some (m := Ax.getObj l) (k := runRound env lf call args l) h
  obtain ⟨e1, hg⟩ := getObj_some h1
  subst e1
  cases o with
  | cells a b c d e => cases h2
  | map => cases h2
  | iter => cases h2
  | loop R =>
    obtain ⟨q, L, l1, ⟨l2, ld⟩, l3, l4⟩ := hr.loop _ _ hg
    rw [hp] at l1; injection l1 with l1; subst l1
    have h3 : M.withO (setTs R.params args R.tmps) (fun tm => M.bind (execC R.assign env call lf tm) (roundB env lf call l R.body)) s0 = some (v, s') := h2
    cases hs : setTs R.params args R.tmps with
    | none => rw [hs] at h3; cases h3
    | some tm =>
      rw [hs] at h3
      obtain ⟨t1, t2, t3⟩ := setTs_spec R.params args us R.tmps tm L.tmps hs hv l4.tmps l4.lt
      obtain ⟨⟨e1, tm1⟩, s1, a1, a2⟩ := bind_some (m := execC R.assign env call lf tm) (k := roundB env lf call l R.body) h3
      cases e1 with
      | exit i => cases a2
      | ret => cases a2
      | normal =>
        obtain ⟨o1, s1', b1, b2⟩ := bind_some (m := Ax.getObj l) (k := roundR env lf call l R.body tm1) a2
        obtain ⟨e1, hg1⟩ := getObj_some b1
        subst e1
        cases o1 with
        | cells a b c d e => cases b2
        | map => cases b2
        | iter => cases b2
        | loop R1 =>
          obtain ⟨u1, s2, c1, c2⟩ := bind_some (m := Ax.setObj l busyO) (k := fun _ => M.bind (execC R.body env call lf tm1) (roundK l (.loop R1))) b2
          have e2 := setObj_some c1
          subst e2
          obtain ⟨⟨e2, tm2⟩, s3, d1, d2⟩ := bind_some (m := execC R.body env call lf tm1) (k := roundK l (.loop R1)) c2
          cases e2 with
          | exit i => cases d2
          | ret => cases d2
          | normal =>
            obtain ⟨u2, s4, f1, f2⟩ := bind_some (m := Ax.setObj l (.loop R1)) (k := fun _ => ret (.bool true)) d2
            have e3 := setObj_some f1
            subst e3
            injection f2 with f2; injection f2 with e4 e5; subst e4; subst e5
            have m1 := (good_execC R.assign env hC.good lf _ _ _ _ a1).mono
            have m2 := (good_execC R.body env hC.good lf _ _ _ _ d1).mono
            simp only at m1 m2 hf ⊢
            have hyr := run_yield (P := P) (w := w) (l := p.blk) (r := L) (args := ⟨us⟩) l3 (by
              have h1 : L.params.toList.length = us.length := by rw [l4.params]; exact t1
              show us.length = L.params.size
              rw [← h1]; simp)
            have hfold : ((L.params.zip (⟨us⟩ : Array Value)).foldl (fun tmps (t, a) => tmps.setIfInBounds t a) L.tmps) = ((R.params.zip us).foldl (fun tmps (t, a) => tmps.setIfInBounds t a) L.tmps) := by
              rw [← Array.foldl_toList, Array.toList_zip, l4.params]
            rw [hfold] at hyr
            refine ⟨_, _, _, _, hyr, ?_⟩
            refine roundIn_of_wpIn trivial ?_
            rw [l4.assign, l4.body]
            have hcA : codeLt ((R.params.zip us).foldl (fun tmps (t, a) => tmps.setIfInBounds t a) L.tmps).size R.assign = true := by rw [t3]; exact l4.codes.1
            refine sim_code (r := some p.blk) (w0 := w0) hE hC lf R.assign _ tm tm1 s0 s1' .normal _ w φ l4.plain.1 a1 t2 hr (hf.mono (Nat.le_refl _) m2) hcA fun φ1 A1 w1 g1 g2 g3 g4 g5 g6 => ?_
            obtain ⟨q1, L1, k1, ⟨k2, kd⟩, k3, k4⟩ := g3.loop _ _ hg1
            rw [g1 _ _ hp] at k1; injection k1 with k1; subst k1
            refine ⟨_, run_beginRound k3 k4.state, ?_⟩
            -- the round runs behind a fence of one block more
            have hfree := g3.loop_free hg1 (g1 _ _ hp)
            have r1 : Rel φ1 w0 w1 (s1'.h.set l busyO) := g3.toBusy (g1 _ _ hp) kd
            have hno : ∀ b l' q, (s1'.h.set l busyO).get b = some (.loop l') → φ1 b = some q → q.blk ≠ p.blk := fun b l' q hb hq => by
              rw [T.get_set] at hb
              by_cases e : b = l
              · rw [if_pos e] at hb; cases hb
              · rw [if_neg e] at hb
                exact fun e' => g3.objs b l _ _ q p hb hg1 rfl rfl e hq (g1 _ _ hp) e'
            have r2 : Rel φ1 w0 (w1.putObj p.blk (.loop { L1 with state := .busy })) (s1'.h.set l busyO) := r1.putObj k3 (fun _ _ _ h => by cases h) (fun _ _ _ h => by cases h) k2 hfree hno
            have hlt1 : p.blk < w1.heap.size := (Array.getElem?_eq_some_iff.1 k3).1
            have r3 := r2.protect (k := p.blk) (o := .loop { L1 with state := .busy }) (.inr ⟨_, rfl, rfl⟩) k2 (World.putObj_heap_same hlt1)
            refine sim_code (r := some p.blk) (w0 := w0.add p.blk (.loop { L1 with state := .busy })) hE hC lf R.body _ tm1 tm2 _ s3 .normal A1 _ φ1 l4.plain.2 d1 g4 r3 (hf.after g2 m1) (by rw [g5, t3]; exact l4.codes.2) fun φ2 A2 w2 j1 j2 j3 j4 j5 j6 => ?_
            have hb2 := j3.prot_self
            refine ⟨_, _, run_endRound none hb2, ?_⟩
            refine ⟨_, φ2, rfl, g1.trans j1, g2.trans j2 m1 m2, ?_, .bool true⟩
            have hp2 : φ2 l = some p := j1 _ _ (g1 _ _ hp)
            have hno2 : ∀ b l' q, s3.h.get b = some (.loop l') → φ2 b = some q → q.blk ≠ p.blk := j3.noLoopAt hb2 (fun L' e => by injection e with e; subst e; intro h; cases h)
            have r4 : Rel φ2 w0 _ s3.h := (j3.unprotect hfree).putObj (o' := .loop { { L1 with state := .busy } with state := if (none : Option Code).isNone then .ready else .done, pending := none }) hb2 (fun _ _ _ h => by cases h) (fun _ _ _ h => by cases h) k2 hfree hno2
            have hlt2 : p.blk < w2.heap.size := (Array.getElem?_eq_some_iff.1 hb2).1
            refine r4.setLoop hp2 kd k2 (World.putObj_heap_same hlt2) (L := { { L1 with state := .busy } with state := if (none : Option Code).isNone then .ready else .done, pending := none }) ?_ (fun b l' q hb hq _ => hno2 b l' q hb hq)
            have k5 := k4.mono j1
            exact ⟨rfl, rfl, k5.params, k5.lt, k5.assign, k5.body, k5.tmps, k5.plain, k5.codes⟩
end
end Go.Ax
