/- The abstract executor: what a call, a region or a piece of code comes to, the model's comes to.
Conditions: none. -/
import Derived.RangeFuncLeaves
import Derived.Test.YtjlhclmgjdabfaaGreatAxS7
namespace Go.Ax
set_option linter.unusedVariables false
set_option linter.unusedSimpArgs false
set_option linter.unusedSectionVars false
open Go.RowKit (Below)

/-- A fence that shuts nothing out, in the frame of a round or of a function. -/
def FW (r : Option Nat) : Fence := { fn := fun _ => True, depth := none, alive := false, round := r }

theorem FW_none : FW none = Fence.wide := rfl

section
variable {P : Program}

/-- What a call must come to. -/
def CallPost (w0 : Base) (φ : Map) (lo hi : Nat) (v : Value) (h : T AObj) (e : Ending) (w : World) : Prop :=
  ∃ u φ', e = .returned u ∧ Le φ φ' ∧ Gr φ φ' lo hi ∧ Rel φ' w0 w h ∧ VR φ' v u

/-- The executor's calls stand for the model's. -/
structure CallOK (P : Program) (call : CallH) : Prop where
  good : GoodCall call
  fn : ∀ f args s v s' w0 w φ us n r, call (.fn f) args s = some (v, s') → VRs φ args us → Rel φ w0 w s.h → Fr φ s.c s'.c →
    (∀ w, (callFunc f ⟨us⟩).run P w = .ok (.enter f ⟨us⟩) w) ∧ CallsIn (FW r) n P f ⟨us⟩ w (CallPost w0 φ s.c s'.c v s'.h)
  yield : ∀ l args s v s' w0 w φ us n r p, call (.yield l) args s = some (v, s') → φ l = some p → VRs φ args us → Rel φ w0 w s.h → Fr φ s.c s'.c →
    ∃ fn tmps assign body, (Instr.yield p.blk ⟨us⟩).run P w = .ok (.round p.blk fn tmps assign body) w ∧ RoundIn (FW r) n P p.blk fn tmps assign body w (CallPost w0 φ s.c s'.c v s'.h)

/-! ### The temporaries -/

section
variable {φ : Map} {tm : T Value}

theorem TR.put {tmps : Array Value} (h : TR φ tm tmps) {d : Option Tmp} {v u : Value} (hv : VR φ v u) (hd : dstLt tmps.size d = true) :
    TR φ (putT d v tm) (({ tmps := tmps, defers := [] } : Act).put d u).tmps := by
  cases d with
  | none => exact h
  | some d =>
    unfold dstLt at hd
    rw [decide_eq_true_eq] at hd
    show TR φ (tm.set d v) (tmps.setIfInBounds d u)
    constructor
    · intro t x hx
      rw [T.get_set] at hx
      by_cases e : t = d
      · rw [if_pos e] at hx; injection hx with hx; subst hx; subst e
        exact ⟨u, Array.getElem?_setIfInBounds_self_of_lt hd, hv⟩
      · rw [if_neg e] at hx
        obtain ⟨y, hy, hr⟩ := h.val t x hx
        exact ⟨y, by rw [Array.getElem?_setIfInBounds_ne (fun h => e h.symm)]; exact hy, hr⟩
    · intro t hx
      rw [T.get_set] at hx
      by_cases e : t = d
      · rw [if_pos e] at hx; cases hx
      · rw [if_neg e] at hx
        have := h.none t hx
        rw [Array.getD_eq_getD_getElem?] at this ⊢
        rw [Array.getElem?_setIfInBounds_ne (fun h => e h.symm)]; exact this

theorem TR.put' {a : Act} (h : TR φ tm a.tmps) {d : Option Tmp} {v u : Value} (hv : VR φ v u) (hd : dstLt a.tmps.size d = true) : TR φ (putT d v tm) (a.put d u).tmps := by
  have := h.put hv hd
  cases d <;> exact this

theorem put_size (a : Act) (d : Option Tmp) (u : Value) : (a.put d u).tmps.size = a.tmps.size := by
  cases d with
  | none => rfl
  | some d => show (a.tmps.setIfInBounds d u).size = _; simp
theorem put_defers (a : Act) (d : Option Tmp) (u : Value) : (a.put d u).defers = a.defers := by cases d <;> rfl

theorem VR_bool_iff {v u : Value} (h : VR φ v u) (b : Bool) : u = .bool b ↔ v = .bool b := by
  constructor
  · intro e; subst e; cases h; rfl
  · intro e; subst e; exact h.bool_inv

theorem wanted_eq {a : Act} (ht : TR φ tm a.tmps) (ops : Array Oper) (o : Oper) : wantedG ops.toList tm o.guard = Region.wanted o (yielded ops a.tmps) := by
  unfold wantedG Region.wanted
  cases o.guard with
  | none => rfl
  | some g =>
    obtain ⟨j, want⟩ := g
    simp only
    unfold yielded
    rw [nthL_eq]
    have hj : ops.toList[j]? = ops[j]? := by simp
    rw [hj]
    cases hoj : ops[j]? with
    | none => rfl
    | some oj =>
      show guardV want (readT tm oj.dst) = _
      cases hd : oj.dst with
      | none => simp [readT, guardV, hd]
      | some d =>
        simp only [readT, Option.bind_some, hd]
        cases hg : tm.get d with
        | none =>
          have hn := ht.none d hg
          rw [Array.getD_eq_getD_getElem?] at hn
          cases hq : a.tmps[d]? with
          | none => rfl
          | some u =>
            rw [hq] at hn; simp only [Option.getD_some] at hn; subst hn; rfl
        | some v =>
          obtain ⟨u, hu, hr⟩ := ht.val d v hg
          rw [hu]
          by_cases hb : ∃ b, v = .bool b
          · obtain ⟨b, rfl⟩ := hb
            rw [hr.bool_inv]
            cases b <;> cases want <;> rfl
          · have h1 : guardV want (some v) = false := by
              unfold guardV
              cases v <;> first | rfl | exact absurd ⟨_, rfl⟩ hb
            have h2 : (match (some u : Option Value) with | some (.bool b) => some b | _ => none) = none := by
              cases u with
              | bool b => exact absurd ⟨b, (VR_bool_iff hr b).1 rfl⟩ hb
              | _ => rfl
            rw [h1]
            show false = ((match (some u : Option Value) with | some (.bool b) => some b | _ => none) == some want)
            rw [h2]; rfl
end

/-! ### One operation -/

/-- What an operation leaves behind. -/
def StepPost (w0 : Base) (φ : Map) (a : Act) (lo hi : Nat) (tm' : T Value) (h : T AObj) (K : Act → World → Prop) : Prop :=
  ∀ φ' a' w', Le φ φ' → Gr φ φ' lo hi → Rel φ' w0 w' h → TR φ' tm' a'.tmps → a'.tmps.size = a.tmps.size → a'.defers = a.defers → K a' w'

variable {env : Env}

theorem func_inv {φ : Map} {f : FuncId} {xs ys : Array Value} {u : Value} (h : VR φ (.func (.func f) xs ys) u) : ∃ xs' ys' : List Value, VRs φ xs.toList xs' ∧ VRs φ ys.toList ys' ∧ u = .func (.func f) ⟨xs'⟩ ⟨ys'⟩ := by
  cases h with | func _ _ _ xs' ys' h h' => exact ⟨xs', ys', h, h', rfl⟩
theorem yield_inv {φ : Map} {l : Nat} {xs ys : Array Value} {u : Value} (h : VR φ (.func (.yield l) xs ys) u) : ∃ p, φ l = some p ∧ u = .func (.yield p.blk) #[] #[] := by
  cases h with | yield _ p h => exact ⟨p, h, rfl⟩

theorem sim_call (hE : EnvOK P env) {call : CallH} (hC : CallOK P call) {r : Option Nat} {n : Nat} {w0 : Base} {w : World} {φ : Map} {tm : T Value} {a : Act} (o : Oper) (hc : calls o.op = true) {s s' : HS} {v : Value}
    (hm : execOp o.op env call tm s = some (v, s')) (ht : TR φ tm a.tmps) (hd : dstLt a.tmps.size o.dst = true) (hr : Rel φ w0 w s.h) (hf : Fr φ s.c s'.c) {K : Act → World → Prop} {Q : Exit → Act → World → Prop}
    (hK : StepPost w0 φ a s.c s'.c (putT o.dst v tm) s'.h K) : o.wpIn (FW r) n P a w K Q := by
  have _ := hE
  refine ⟨fun _ _ => trivial, ?_⟩
  have hnd : ∀ c, o.op ≠ .defer c := by intro c e; rw [e] at hc; cases hc
  rw [Oper.semAt_eq _ _ _ hnd]
  obtain ⟨dst, op, type, pos, after, guard⟩ := o
  simp only at hc hm hd hK
  cases op with
  | call c =>
    unfold calls at hc
    simp only at hc
    cases hcal : c.callee with
    | builtin b => rw [hcal] at hc; cases hc
    | invoke rcv m => rw [hcal] at hc; cases hc
    | value fo =>
      have hm' : opCall c env call tm s = some (v, s') := hm
      unfold opCall at hm'
      cases hargs : evs c.args.toList tm with
      | none => rw [hargs] at hm'; cases hm'
      | some args =>
        rw [hargs] at hm'
        have hm2 : calleeK c.callee c.argTypes env call tm args s = some (v, s') := hm'
        rw [hcal] at hm2
        have hm3 : M.withO (ev fo tm) (callV call args) s = some (v, s') := hm2
        cases hfo : ev fo tm with
        | none => rw [hfo] at hm3; cases hm3
        | some fv =>
          rw [hfo] at hm3
          have hm4 : callV call args fv s = some (v, s') := hm3
          have hfr := ev_VR ht hfo
          have har := evs_VR ht hargs
          have eargs : c.args.map a.eval = ⟨c.args.toList.map a.eval⟩ := by apply Array.ext'; simp
          unfold callV at hm4
          split at hm4
          · rename_i f xs ys
            obtain ⟨xs', ys', hx, hy, hu⟩ := func_inv hfr
            rw [appL_eq, appL_eq] at hm4
            have hall : VRs φ (xs.toList ++ (args ++ ys.toList)) (xs' ++ (c.args.toList.map a.eval ++ ys')) := hx.append (har.append hy)
            obtain ⟨h1, h2⟩ := hC.fn f _ s v s' w0 w φ _ (n - 1) r hm4 hall hr hf
            have hrun : (Go.execOp a.eval ⟨dst, .call c, type, pos, after, guard⟩).run P w = .ok (.enter f ⟨xs' ++ (c.args.toList.map a.eval ++ ys')⟩) w := by
              have hres : (resolve a.eval c type).run P w = .ok { target := .fn (.func f) ⟨ys'⟩, args := ⟨xs'⟩ ++ c.args.map a.eval } w := by
                unfold resolve
                rw [hcal]
                simp only [hu]
                rfl
              show Sem.run P (resolve a.eval c type >>= fun d => invoke d.target d.args) w = _
              rw [Sem.run_bind, hres, Result.andThen_ok, eargs]
              show Sem.run P (callFunc f ((⟨xs'⟩ : Array Value) ++ ⟨c.args.toList.map a.eval⟩ ++ ⟨ys'⟩)) w = _
              have e2 : ((⟨xs'⟩ : Array Value) ++ ⟨c.args.toList.map a.eval⟩ ++ ⟨ys'⟩) = ⟨xs' ++ (c.args.toList.map a.eval ++ ys')⟩ := by apply Array.ext'; simp
              rw [e2]; exact h1 w
            rw [hrun]
            refine ⟨fun h => by simp [FW] at h, h2.mono fun e w' he => ?_⟩
            obtain ⟨u, φ', e1, l1, g1, r1, v1⟩ := he
            subst e1
            exact hK φ' _ w' l1 g1 r1 ((ht.mono l1).put' v1 hd) (put_size _ _ _) (put_defers _ _ _)
          · rename_i l xs ys
            obtain ⟨p, hp, hu⟩ := yield_inv hfr
            obtain ⟨fn, tmps, assign, body, h1, h2⟩ := hC.yield l args s v s' w0 w φ _ (n - 1) r p hm4 hp har hr hf
            have hrun : (Go.execOp a.eval ⟨dst, .call c, type, pos, after, guard⟩).run P w = .ok (.round p.blk fn tmps assign body) w := by
              have hres : (resolve a.eval c type).run P w = .ok { target := .fn (.yield p.blk) #[], args := #[] ++ c.args.map a.eval } w := by
                unfold resolve
                rw [hcal]
                simp only [hu]
                rfl
              show Sem.run P (resolve a.eval c type >>= fun d => invoke d.target d.args) w = _
              rw [Sem.run_bind, hres, Result.andThen_ok, eargs]
              show Sem.run P (Instr.yield p.blk (#[] ++ (⟨c.args.toList.map a.eval⟩ : Array Value))) w = _
              have e2 : (#[] ++ (⟨c.args.toList.map a.eval⟩ : Array Value)) = ⟨c.args.toList.map a.eval⟩ := by apply Array.ext'; simp
              rw [e2]; exact h1
            rw [hrun]
            refine ⟨fun h => by simp [FW] at h, h2.mono fun e w' he => ?_⟩
            obtain ⟨u, φ', e1, l1, g1, r1, v1⟩ := he
            subst e1
            exact hK φ' _ w' l1 g1 r1 ((ht.mono l1).put' v1 hd) (put_size _ _ _) (put_defers _ _ _)
          · cases hm4
  | _ => cases hc

theorem sim_noCall (hE : EnvOK P env) {call : CallH} {r : Option Nat} {n : Nat} {w0 : Base} {w : World} {φ : Map} {tm : T Value} {a : Act} (o : Oper) (hc : calls o.op = false) {s s' : HS} {v : Value}
    (hm : execOp o.op env call tm s = some (v, s')) (ht : TR φ tm a.tmps) (hd : dstLt a.tmps.size o.dst = true) (hr : Rel φ w0 w s.h) (hf : Fr φ s.c s'.c) {K : Act → World → Prop} {Q : Exit → Act → World → Prop}
    (hK : StepPost w0 φ a s.c s'.c (putT o.dst v tm) s'.h K) : o.wpIn (FW r) n P a w K Q := by
  refine ⟨fun _ _ => trivial, ?_⟩
  have hnd : ∀ c, o.op ≠ .defer c := by intro c e; rw [e] at hm; cases hm
  rw [Oper.semAt_eq _ _ _ hnd]
  obtain ⟨u, w', φ', h1, h2, h3, h4, h5⟩ := sim_op hE ht o hc call s w v s' hm hr hf
  rw [h1]
  rcases h5 with ⟨x, rfl, hx⟩ | ⟨rfl, rfl⟩
  · exact hK φ' _ w' h2 h3 h4 ((ht.mono h2).put' hx hd) (put_size _ _ _) (put_defers _ _ _)
  · exact hK φ' _ w' h2 h3 h4 ((ht.mono h2).put' (.tuple [] [] .nil) hd) (put_size _ _ _) (put_defers _ _ _)

theorem sim_exec (hE : EnvOK P env) {call : CallH} (hC : CallOK P call) {r : Option Nat} {n : Nat} {w0 : Base} {w : World} {φ : Map} {tm : T Value} {a : Act} (o : Oper) {s s' : HS} {v : Value}
    (hm : execOp o.op env call tm s = some (v, s')) (ht : TR φ tm a.tmps) (hd : dstLt a.tmps.size o.dst = true) (hr : Rel φ w0 w s.h) (hf : Fr φ s.c s'.c) {K : Act → World → Prop} {Q : Exit → Act → World → Prop}
    (hK : StepPost w0 φ a s.c s'.c (putT o.dst v tm) s'.h K) : o.wpIn (FW r) n P a w K Q := by
  cases hc : calls o.op with
  | true => exact sim_call hE hC o hc hm ht hd hr hf hK
  | false => exact sim_noCall hE o hc hm ht hd hr hf hK

/-- One operation of a region, its guard asked. -/
theorem sim_step (hE : EnvOK P env) {call : CallH} (hC : CallOK P call) {r : Option Nat} {n : Nat} {w0 : Base} {w : World} {φ : Map} {tm tm' : T Value} {a : Act} (ops : Array Oper) (i : Nat) (o : Oper) (hi : ops[i]? = some o) {s s' : HS}
    (hm : stepOp ops.toList o env call tm s = some (tm', s')) (ht : TR φ tm a.tmps) (hd : dstLt a.tmps.size o.dst = true) (hr : Rel φ w0 w s.h) (hf : Fr φ s.c s'.c) {K : Act → World → Prop} {Q : Exit → Act → World → Prop}
    (hK : StepPost w0 φ a s.c s'.c tm' s'.h K) : wpOpIn (FW r) n P ops Q i K a w := by
  unfold wpOpIn
  simp only [hi]
  unfold stepOp at hm
  have hw := wanted_eq ht ops o
  cases hg : wantedG ops.toList tm o.guard with
  | true =>
    rw [hg] at hm hw
    rw [← hw, if_pos rfl]
    obtain ⟨v, s1, h1, h2⟩ := bind_some hm
    injection h2 with h2; injection h2 with e1 e2; subst e1; subst e2
    exact sim_exec hE hC o h1 ht hd hr hf hK
  | false =>
    rw [hg] at hm hw
    rw [← hw, if_neg (by simp)]
    injection hm with hm; injection hm with e1 e2; subst e1; subst e2
    exact ⟨fun _ _ => trivial, hK φ _ w (Le.refl _) (Gr.refl _ _ _) hr (ht.put' (.tuple [] [] .nil) hd) (put_size _ _ _) (put_defers _ _ _)⟩

end
end Go.Ax
