/- The abstract executor: its operations stand for the model's: every operation that enters no function.
Conditions: none. -/
import Derived.Test.YtjlhclmgjdabfaaGreatAxS8
namespace Go.Ax
set_option linter.unusedVariables false
set_option linter.unusedSimpArgs false
set_option linter.unusedSectionVars false
open Go.RowKit (Below)

section
variable {P : Program} {w0 : Base} {φ : Map} {tm : T Value} {a : Act} {env : Env}

theorem sim_len (hE : EnvOK P env) {t ty : TypeId} {v u : Value} (h : VR φ v u) {ti : TI} (hti : env.ty.get t = some ti) :
    Sim P w0 φ (M.ofO (lenB env ti.desc v)) (Builtin.len_ #[t] ty #[u]) RVal := by
  have hT := hE.ty _ _ hti
  refine Sim.ofO fun r hr => ?_
  have fin : ∀ k : Nat, r = .int .i64 (Int.ofNat k) → (∀ w, (Builtin.len_ #[t] ty #[u]).run P w = .ok (goInt k) w) → Sim P w0 φ (M.pure r) (Builtin.len_ #[t] ty #[u]) RVal := by
    intro k hk hrun
    subst hk
    exact Sim.congr (d := Pure.pure (goInt k)) hrun (Sim.pure (VR.int _ _))
  unfold lenB at hr
  split at hr
  · rename_i s hd
    simp only [ofI, Option.some.injEq] at hr
    rw [h.str_inv] at fin ⊢
    refine fin s.size (by rw [← hr, lenL_eq]; rfl) fun w => ?_
    unfold Builtin.len_
    simp only [List.getElem?_toArray, List.getElem?_cons_zero, Sem.run_bind, hT.runU, hd, Result.andThen_ok]
    rfl
  · rename_i e x n c hd
    simp only [ofI, Option.some.injEq] at hr
    refine fin n hr.symm fun w => ?_
    unfold Builtin.len_
    simp only [List.getElem?_toArray, List.getElem?_cons_zero, Sem.run_bind, hT.runU, hd, Result.andThen_ok]
    cases h <;> rfl
  · rename_i n e hd
    simp only [ofI, Option.some.injEq] at hr
    refine fin n hr.symm fun w => ?_
    unfold Builtin.len_
    simp only [List.getElem?_toArray, List.getElem?_cons_zero, Sem.run_bind, hT.runU, hd, Result.andThen_ok]
    rfl
  · rename_i e hd
    split at hr
    · rename_i te hte
      split at hr
      · rename_i n e' hd'
        simp only [ofI, Option.some.injEq] at hr
        refine fin n hr.symm fun w => ?_
        have hTe := hE.ty _ _ hte
        unfold Builtin.len_
        simp only [List.getElem?_toArray, List.getElem?_cons_zero, Sem.run_bind, hT.runU, hd, Result.andThen_ok, hTe.runU, hd']
        rfl
      · cases hr
    · cases hr
  · cases hr

theorem minV_run : ∀ {l l' : List Value} {x x' r : Value}, VRs φ l l' → VR φ x x' → minV l x = some r → ∃ r', VR φ r r' ∧ ∀ w, (l'.foldlM Builtin.min2 x').run P w = .ok r' w
  | [], l', x, x', r, hl, hx, h => by
    cases hl
    have : some x = some r := h
    injection this with this; subst this
    exact ⟨x', hx, fun w => rfl⟩
  | y :: l, l', x, x', r, hl, hx, h => by
    cases hl with
    | cons hy hs =>
      unfold minV at h
      split at h
      · rename_i k m k' n
        rw [hx.int_inv, hy.int_inv]
        rw [List.foldlM_cons]
        have hm : ∀ w, (Builtin.min2 (.int k m) (.int k' n)).run P w = .ok (.int k (if n < m then n else m)) w := fun w => rfl
        cases hlt : iLt n m with
        | true =>
          rw [hlt] at h
          rw [iLt_eq, decide_eq_true_eq] at hlt
          obtain ⟨r', h1, h2⟩ := minV_run hs (VR.int k n) h
          exact ⟨r', h1, fun w => by rw [Sem.run_bind, hm, Result.andThen_ok, if_pos hlt]; exact h2 w⟩
        | false =>
          rw [hlt] at h
          rw [iLt_eq, decide_eq_false_iff_not] at hlt
          obtain ⟨r', h1, h2⟩ := minV_run hs (VR.int k m) h
          exact ⟨r', h1, fun w => by rw [Sem.run_bind, hm, Result.andThen_ok, if_neg hlt]; exact h2 w⟩
      · cases h

theorem maxV_run : ∀ {l l' : List Value} {x x' r : Value}, VRs φ l l' → VR φ x x' → maxV l x = some r → ∃ r', VR φ r r' ∧ ∀ w, (l'.foldlM Builtin.max2 x').run P w = .ok r' w
  | [], l', x, x', r, hl, hx, h => by
    cases hl
    have : some x = some r := h
    injection this with this; subst this
    exact ⟨x', hx, fun w => rfl⟩
  | y :: l, l', x, x', r, hl, hx, h => by
    cases hl with
    | cons hy hs =>
      unfold maxV at h
      split at h
      · rename_i k m k' n
        rw [hx.int_inv, hy.int_inv]
        rw [List.foldlM_cons]
        have hm : ∀ w, (Builtin.max2 (.int k m) (.int k' n)).run P w = .ok (.int k (if n > m then n else m)) w := fun w => rfl
        cases hlt : iLt m n with
        | true =>
          rw [hlt] at h
          rw [iLt_eq, decide_eq_true_eq] at hlt
          obtain ⟨r', h1, h2⟩ := maxV_run hs (VR.int k n) h
          exact ⟨r', h1, fun w => by rw [Sem.run_bind, hm, Result.andThen_ok, if_pos hlt]; exact h2 w⟩
        | false =>
          rw [hlt] at h
          rw [iLt_eq, decide_eq_false_iff_not] at hlt
          obtain ⟨r', h1, h2⟩ := maxV_run hs (VR.int k m) h
          exact ⟨r', h1, fun w => by rw [Sem.run_bind, hm, Result.andThen_ok, if_neg hlt]; exact h2 w⟩
      · cases h

/-- The model's answer to a built-in function. -/
theorem Sim.next {m : M Value} {s : Sem Value} (h : Sim P w0 φ m s RVal) : Sim P w0 φ m (do Pure.pure (.value (← s)) : Sem Next) RNext := h.value

theorem sim_copy (hE : EnvOK P env) {t ty e : TypeId} {te : TI} (hU : ∀ w, (underlying t).run P w = .ok (.slice e) w) (hte : env.ty.get e = some te) {ts : List TypeId} {x y x' y' : Value} (hx : VR φ x x') (hy : VR φ y y') :
    Sim P w0 φ (M.withO (lenV x) fun d => M.withO (lenV y) fun s => force (minN s d) fun n => M.bind (firstN te.size n y) (copyTo n x)) (Builtin.copy_ ⟨t :: ts⟩ ty #[x', y']) RVal := by
  have hTe := hE.ty _ _ hte
  refine Sim.withO fun d hd => Sim.withO fun sl hsl => Sim.force ?_
  have hmin : minN sl d = Nat.min sl d := by
    unfold minN
    rw [nble]
    by_cases h : sl ≤ d
    · rw [decide_eq_true h]; exact (Nat.min_eq_left h).symm
    · rw [decide_eq_false h]; show d = min sl d; omega
  rw [hmin]
  intro s w v s' hm r f
  obtain ⟨l, s1, h1, h2⟩ := bind_some hm
  obtain ⟨e1, us, hus, hfc⟩ := peek_firstN (P := P) hy r h1
  subst e1
  have hly := lenV_run hy hsl (P := P)
  have hfirst := hfc w (fun _ => rfl)
  unfold copyTo at h2
  -- what the model does ahead of the stores
  have pre : ∀ base dl dc, x' = .slice base dl dc → dl = d → (Builtin.copy_ ⟨t :: ts⟩ ty #[x', y']).run P w =
      (match base with | some a => (storeCells a us.toList).run P w | none => .ok () w).andThen fun _ w' => .ok (goInt (Nat.min sl d)) w' := by
    intro base dl dc e1 e2
    subst e1; subst e2
    unfold Builtin.copy_
    simp only [List.getElem?_toArray, List.getElem?_cons_zero, List.getElem?_cons_succ, Sem.run_bind, hU, Result.andThen_ok, hly, hTe.runS, hfirst]
    cases base with
    | none => rfl
    | some a => simp only [Sem.run_bind]; rfl
  split at h2
  · rename_i b' l1 c1
    have hdl : l1 = d := by simp only [lenV, Option.some.injEq] at hd; exact hd
    cases hn0 : Nat.beq (Nat.min sl d) 0 with
    | true =>
      rw [hn0] at h2
      rw [T.nbeq, decide_eq_true_eq] at hn0
      injection h2 with h2; injection h2 with e1 e2; subst e1; subst e2
      have hl0 : us = #[] := by
        have h1' := hfirst
        rw [hn0] at h1'
        cases hy with
        | nils _ _ _ => injection h1' with h1' _; exact h1'.symm
        | sl b off _ _ c' p hp _ _ _ =>
          have : (loadCells (⟨p.blk, p.base + off, none⟩ : Addr) (0 * te.size)).run P w = .ok us w := h1'
          rw [Nat.zero_mul] at this
          injection this with this _; exact this.symm
        | sle a1 a2 =>
          have : (loadCells a2 (0 * te.size)).run P w = .ok us w := h1'
          rw [Nat.zero_mul] at this
          injection this with this _; exact this.symm
        | str s0 => simp [lenV] at hsl; unfold firstN at h1; cases h1
        | _ => simp [lenV] at hsl
      have : ∃ base dc, x' = .slice (some base) d dc := by
        rw [← hdl]
        cases hx with
        | sl b off _ _ c' p hp _ _ _ => exact ⟨_, _, rfl⟩
        | sle _ _ => exact ⟨_, _, rfl⟩
      obtain ⟨base, dc, hx'⟩ := this
      refine ⟨.int .i64 0, w, φ, ?_, Le.refl _, Gr.refl _ _ _, r, VR.int _ _⟩
      rw [pre (some base) d dc hx' rfl, hl0, hn0]
      rfl
    | false =>
      rw [hn0] at h2
      rw [T.nbeq, decide_eq_false_iff_not] at hn0
      obtain ⟨_, s2, k1, k2⟩ := bind_some h2
      injection k2 with k2; injection k2 with e1 e2; subst e1; subst e2
      have hd0 : d ≠ 0 := fun e => hn0 (by rw [e]; exact Nat.min_zero _)
      cases hx with
      | sl b off _ _ c' p hp _ _ _ =>
        have hst := sim_storeN (P := P) (w0 := w0) (VR.ptr b off p hp) hus s1 w () s2 k1 r f
        obtain ⟨u, w', φ', c1, c2, c3, c4, _⟩ := hst
        refine ⟨goInt (Nat.min sl d), w', φ', ?_, c2, c3, c4, VR.int _ _⟩
        rw [pre _ _ _ rfl hdl]
        simp only
        rw [c1]; rfl
      | sle _ _ => exact absurd hdl.symm hd0
  · rename_i l1 c1
    have hdl : l1 = d := by simp only [lenV, Option.some.injEq] at hd; exact hd
    injection h2 with h2; injection h2 with e1 e2; subst e1; subst e2
    cases hx with
    | nils _ _ _ =>
      refine ⟨goInt (Nat.min sl d), w, φ, ?_, Le.refl _, Gr.refl _ _ _, r, VR.int _ _⟩
      rw [pre none l1 c1 rfl hdl]; rfl
  · cases h2

theorem sim_cap (hE : EnvOK P env) {t ty : TypeId} {v u : Value} (h : VR φ v u) : Sim P w0 φ (bCap env t [v]) (Builtin.cap_ #[t] ty #[u]) RVal := by
  unfold bCap
  refine Sim.withO fun ti hti => ?_
  have hT := hE.ty _ _ hti
  split
  · rename_i e x n c hd hv
    injection hv with hv; subst hv
    cases h with
    | nils _ _ _ =>
      refine Sim.congr (d := Pure.pure (goInt c)) (fun w => ?_) (Sim.pure (VR.int _ _))
      unfold Builtin.cap_
      simp only [List.getElem?_toArray, List.getElem?_cons_zero, Sem.run_bind, hT.runU, hd, Result.andThen_ok]
  · rename_i e b off l c hd hv
    injection hv with hv; subst hv
    refine Sim.getObj fun o s w v' s' hg hk r f => ?_
    unfold capK at hk
    split at hk
    · rename_i size es tight ro cs
      cases tight with
      | false => cases hk
      | true =>
        injection hk with hk; injection hk with e1 e2; subst e1; subst e2
        have fin : ∀ a' l' c', u = .slice (some a') l' c' → c' = c → (Builtin.cap_ #[t] ty #[u]).run P w = .ok (goInt c) w := by
          intro a' l' c' e1 e2
          subst e1; subst e2
          unfold Builtin.cap_
          simp only [List.getElem?_toArray, List.getElem?_cons_zero, Sem.run_bind, hT.runU, hd, Result.andThen_ok]
          rfl
        rcases sl_inv h with ⟨h1, h2, a', rfl⟩ | ⟨_, p, c', hp, h0, h1, h2, rfl⟩
        · exact ⟨_, w, φ, fin _ _ _ rfl h2.symm, Le.refl _, Gr.refl _ _ _, r, VR.int _ _⟩
        · obtain ⟨q, hq, hl⟩ := r.live _ _ _ _ _ _ hg
          rw [hp] at hq; injection hq with hq; subst hq
          have : c' = c := h2.resolve_right (fun ⟨h3, _⟩ => by rw [hl.htight] at h3; cases h3)
          exact ⟨_, w, φ, fin _ _ _ rfl this, Le.refl _, Gr.refl _ _ _, r, VR.int _ _⟩
    · cases hk
  · exact Sim.fail

theorem repL_VR {e : TypeId} {te : TI} (hTe : TyOK P e te) (n : Nat) : VRs φ (repL te.zero n) (repL te.zero n) := by
  induction n with
  | zero => exact .nil
  | succ n ih => rw [repL_succ]; exact hTe.zVR.append ih

theorem sim_clear (hE : EnvOK P env) {t ty e : TypeId} {te : TI} (hU : ∀ w, (underlying t).run P w = .ok (.slice e) w) (hte : env.ty.get e = some te) {ts : List TypeId} {v u : Value} (h : VR φ v u) :
    Sim P w0 φ (clearV te v) (Builtin.clear_ ⟨t :: ts⟩ ty #[u]) RVal := by
  have hTe := hE.ty _ _ hte
  obtain ⟨z, hz, hz1, _⟩ := hTe.runZ
  have done : ∀ w, (∃ a c, u = .slice a 0 c) ∨ (∃ l c, u = .slice none l c) → (Builtin.clear_ ⟨t :: ts⟩ ty #[u]).run P w = .ok undef w := by
    intro w hu
    unfold Builtin.clear_
    rcases hu with ⟨a, c, rfl⟩ | ⟨l, c, rfl⟩
    · simp only [List.getElem?_toArray, List.getElem?_cons_zero, Sem.run_bind, hU, Result.andThen_ok]
      cases a <;> rfl
    · simp only [List.getElem?_toArray, List.getElem?_cons_zero, Sem.run_bind, hU, Result.andThen_ok]
      rfl
  unfold clearV
  split
  · rename_i l c
    cases h with
    | nils _ _ _ => exact Sim.congr (d := Pure.pure undef) (fun w => done w (.inr ⟨_, _, rfl⟩)) (Sim.pure (.tuple [] [] .nil))
  · rename_i x n c
    obtain ⟨b, off, o⟩ := x
    cases hn0 : Nat.beq n 0 with
    | true =>
      rw [T.nbeq, decide_eq_true_eq] at hn0
      subst hn0
      refine Sim.congr (d := Pure.pure undef) (fun w => done w ?_) (Sim.pure (.tuple [] [] .nil))
      rcases sl_inv h with ⟨h1, h2, a', rfl⟩ | ⟨_, p, c', _, _, _, _, rfl⟩
      · exact .inl ⟨_, _, rfl⟩
      · exact .inl ⟨_, _, rfl⟩
    | false =>
      rw [T.nbeq, decide_eq_false_iff_not] at hn0
      rcases sl_inv h with ⟨h1, h2, a', rfl⟩ | ⟨rfl, p, c', hp, _, _, _, rfl⟩
      · exact absurd h1 hn0
      · refine Sim.congr (d := storeCells ⟨p.blk, p.base + off, none⟩ (repL te.zero n) >>= fun _ => Pure.pure undef) (fun w => ?_) ?_
        · unfold Builtin.clear_
          obtain ⟨k, rfl⟩ : ∃ k, n = k + 1 := ⟨n - 1, by omega⟩
          simp only [List.getElem?_toArray, List.getElem?_cons_zero, Sem.run_bind, hU, Result.andThen_ok, hz, zeroCells_eq hz1]
          rfl
        · exact Sim.bind (good_storeN _ _) (fun _ => good_ret _) (sim_storeN (VR.ptr b off p hp) (repL_VR hTe n)) fun ψ _ _ _ _ => Sim.pure (.tuple [] [] .nil)
  · exact Sim.fail

theorem sim_builtin (hE : EnvOK P env) (b : Builtin) (ts : Array TypeId) (type : TypeId) (consts : Array Bool) {args us : List Value} (h : VRs φ args us) :
    Sim P w0 φ (builtinV b env ts.toList args) (builtin b ts type consts ⟨us⟩) RNext := by
  obtain ⟨ts⟩ := ts
  unfold builtinV
  split
  · -- append
    split
    · rename_i t0 t1 hts
      subst hts
      unfold bAppend
      refine Sim.withO fun ti hti => ?_
      have hT := hE.ty _ _ hti
      split
      · rename_i e hd
        refine Sim.withO fun te hte => Sim.withO fun t1i ht1 => ?_
        split
        · exact Sim.fail
        · rename_i hint
          split
          · rename_i x y
            cases h with
            | cons hx hs => cases hs with
              | cons hy hs => cases hs with
                | nil => exact (sim_append hE (fun w => by rw [hT.runU, hd]) hte (hE.ty _ _ ht1).runU hint hx hy).value
          · exact Sim.fail
      · exact Sim.fail
    · exact Sim.fail
  · -- len
    split
    · rename_i t hts
      subst hts
      unfold bLen
      refine Sim.withO fun ti hti => ?_
      split
      · cases h with
        | cons hx hs => cases hs with
          | nil => exact (sim_len hE hx hti).value
      · exact Sim.fail
    · exact Sim.fail
  · -- copy
    split
    · rename_i t ts' hts
      subst hts
      unfold bCopy
      refine Sim.withO fun ti hti => ?_
      have hT := hE.ty _ _ hti
      split
      · rename_i e hd
        refine Sim.withO fun te hte => ?_
        split
        · cases h with
          | cons hx hs => cases hs with
            | cons hy hs => cases hs with
              | nil => exact (sim_copy hE (fun w => by rw [hT.runU, hd]) hte hx hy).value
        · exact Sim.fail
      · exact Sim.fail
    · exact Sim.fail
  · -- min
    unfold bMin
    split
    · exact Sim.fail
    · cases h with
      | cons hx hs =>
        refine Sim.value (Sim.ofO fun r hr => ?_)
        obtain ⟨r', h1, h2⟩ := minV_run (P := P) hs hx hr
        exact Sim.congr (d := Pure.pure r') (fun w => h2 w) (Sim.pure h1)
  · -- max
    unfold bMax
    split
    · exact Sim.fail
    · cases h with
      | cons hx hs =>
        refine Sim.value (Sim.ofO fun r hr => ?_)
        obtain ⟨r', h1, h2⟩ := maxV_run (P := P) hs hx hr
        exact Sim.congr (d := Pure.pure r') (fun w => h2 w) (Sim.pure h1)
  · -- cap
    split
    · rename_i t hts
      subst hts
      cases h with
      | nil => unfold bCap; exact Sim.withO fun ti hti => by split <;> first | exact Sim.fail | (rename_i h; cases h)
      | cons hx hs => cases hs with
        | nil => exact (sim_cap hE hx).value
        | cons _ _ => unfold bCap; exact Sim.withO fun ti hti => by split <;> first | exact Sim.fail | (rename_i h; cases h)
    · exact Sim.fail
  · -- clear
    split
    · rename_i t ts' hts
      subst hts
      unfold bClear
      refine Sim.withO fun ti hti => ?_
      have hT := hE.ty _ _ hti
      split
      · rename_i e hd
        refine Sim.withO fun te hte => ?_
        split
        · cases h with
          | cons hx hs => cases hs with
            | nil => exact (sim_clear hE (fun w => by rw [hT.runU, hd]) hte hx).value
        · exact Sim.fail
      · exact Sim.fail
    · exact Sim.fail
  · exact Sim.fail

/-- Does the operation enter a function of the program? -/
def calls (o : Op) : Bool := match o with
  | .call c => match c.callee with
    | .value _ => true
    | _ => false
  | _ => false

/-- Every operation that enters no function. -/
theorem sim_op (hE : EnvOK P env) (ht : TR φ tm a.tmps) (o : Oper) (hc : calls o.op = false) (call : CallH) : Sim P w0 φ (execOp o.op env call tm) (Go.execOp a.eval o) RNext := by
  unfold execOp Go.execOp
  obtain ⟨dst, op, type, pos, after, guard⟩ := o
  simp only at hc ⊢
  cases op with
  | move x => exact sim_move ht x
  | assign x => exact sim_move ht x
  | pick c x y => exact sim_pick ht c x y call
  | alloc t => exact sim_alloc hE t call
  | box t x => exact sim_box ht t x call
  | build t ps => exact sim_build hE ht t ps call
  | buildSlice t n ps => exact sim_buildSlice hE ht t n ps call
  | load t x => exact sim_load hE ht t x call
  | store t x y => exact sim_store hE ht t x y call
  | nilCheck x => exact sim_nil ht ⟨dst, .nilCheck x, type, pos, after, guard⟩ x rfl call
  | binOp op t x y yt => exact sim_bin hE ht op t x y call
  | unOp op t x => exact sim_un ht op x call
  | convert s d x => exact sim_convert hE ht s d x call
  | makeFunc fn f c => exact sim_func ht fn f c call
  | makeSlice t l c => exact sim_makeSlice hE ht t l c call
  | slice t x lo hi mx => exact sim_slice hE ht t x lo hi mx call
  | fieldAddr t x i => exact sim_fieldAddr hE ht t x i call
  | field t x i => exact sim_field hE ht t x i call
  | indexAddr t x i => exact sim_indexAddr hE ht t x i call
  | index t x i => exact sim_index hE ht t x i call
  | extract t i => exact sim_extract ht t i call
  | call c =>
    unfold opCall
    refine Sim.withO fun args hargs => ?_
    have hr := evs_VR ht hargs
    unfold calleeK
    split
    · rename_i f hf
      simp [calls, hf] at hc
    · exact Sim.fail
    · rename_i b hb
      refine Sim.congr (d := builtin b c.argTypes type (c.args.map fun | .const _ => true | _ => false) ⟨c.args.toList.map a.eval⟩) (fun w => ?_) (sim_builtin hE b c.argTypes type _ hr)
      have e : c.args.map a.eval = ⟨c.args.toList.map a.eval⟩ := by apply Array.ext'; simp
      have hres : (resolve a.eval c type).run P w = .ok { target := .builtin b c.argTypes type (c.args.map fun | .const _ => true | _ => false), args := c.args.map a.eval } w := by
        unfold resolve
        rw [hb]; rfl
      show Sem.run P (resolve a.eval c type >>= fun d => invoke d.target d.args) w = _
      rw [Sem.run_bind, hres, Result.andThen_ok, e]
      rfl
  | makeMap t r => exact sim_makeMap t r call
  | range t x => exact sim_rangeM hE ht t x call
  | next x b => exact sim_next ht x b type call
  | _ => exact Sim.fail

end
end Go.Ax
