/- The abstract executor with a table of calls whose answers are proved elsewhere.
Conditions: none. -/
import Derived.Test.YtifgpgahbbbkpaaGreatAxH
namespace Go.Ax
set_option linter.unusedVariables false
set_option linter.unusedSimpArgs false
set_option linter.unusedSectionVars false
open Go.RowKit (Below)

section
variable {P : Program} {env : Env}

theorem Rel.under {φ : Map} {w0 : Base} {w w' : World} {h : T AObj} (r : Rel φ w0 w h) (hb : Below w.heap.size w w') : Rel φ w0 w' h := by
  have hobj : ∀ k o, w.heap[k]? = some o → w'.heap[k]? = some o := fun k o hk => by rw [hb.block k (Array.getElem?_eq_some_iff.1 hk).1]; exact hk
  have hcell : ∀ a : Addr, a.block < w.heap.size → w'.cell? a = w.cell? a := fun a ha => by unfold World.cell?; rw [hb.block _ ha]
  have hfro : ∀ a : Addr, a.block < w.heap.size → w'.frozen? a = w.frozen? a := fun a ha => by unfold World.frozen?; rw [hb.block _ ha]
  refine ⟨r.below.trans (hb.mono r.below.size), fun b s e t ro cs hx => ?_, r.apart, fun b l hx => ?_, fun k o hk => ?_, r.objs⟩
  · obtain ⟨p, h1, h2⟩ := r.live b s e t ro cs hx
    exact ⟨p, h1, h2.keep (Le.refl _) (fun i hi => hcell _ (h2.lt i hi)) (fun i hi => hfro _ (h2.lt i hi))⟩
  · obtain ⟨p, L, h1, h2, h3, h4⟩ := r.loop _ _ hx
    exact ⟨p, L, h1, h2, hobj _ _ h3, h4⟩
  · obtain ⟨h1, h2, h3⟩ := r.prot _ _ hk
    exact ⟨h1, h2, hobj _ _ h3⟩

/-- Calls on plain values whose answers are plain and that turn nothing that was there. -/
abbrev Tbl := Nat → List Value → Option Value

structure TblOK (P : Program) (tbl : Tbl) : Prop where
  args : ∀ f args v, tbl f args = some v → ∀ x ∈ args, constOK1 x = true
  out : ∀ f args v, tbl f args = some v → constOK1 v = true
  enter : ∀ f args v, tbl f args = some v → ∀ us w, (callFunc f us).run P w = .ok (.enter f us) w
  calls : ∀ f args v, tbl f args = some v → ∀ w, Calls P f ⟨args⟩ w fun e w' => e = .returned v ∧ Below w.heap.size w w'

noncomputable def orCall (o : Option Value) (m : M Value) : M Value := match o with
  | some v => ret v
  | none => m

noncomputable def callT (env : Env) (lf : Nat) (tbl : Tbl) (n : Nat) : CallH :=
  Nat.rec (motive := fun _ => CallH) (fun _ _ => M.fail) (fun _ r t args => match t with
    | .fn f => orCall (tbl f args) (callK env lf r (.fn f) args)
    | .yield l => callK env lf r (.yield l) args) n

theorem plain_inv {φ : Map} {v u : Value} (h : constOK1 v = true) (hv : VR φ v u) : u = v := by
  cases hv with
  | bool => rfl
  | int => rfl
  | str => rfl
  | nilp => rfl
  | nils l c hl =>
    cases l with
    | zero => cases c with
      | zero => rfl
      | succ c => rfl
    | succ l => rfl
  | nilf => rfl
  | nili => rfl
  | _ => cases h

theorem plains_inv {φ : Map} : ∀ {l m : List Value}, (∀ x ∈ l, constOK1 x = true) → VRs φ l m → m = l
  | [], _, _, h => by cases h; rfl
  | v :: l, _, hp, h => by
    cases h with
    | cons h1 h2 => rw [plain_inv (hp v List.mem_cons_self) h1, plains_inv (fun x hx => hp x (List.mem_cons_of_mem _ hx)) h2]

theorem callT_ok (hE : EnvOK P env) (hp : EnvPlain env) (lf : Nat) {tbl : Tbl} (hT : TblOK P tbl) : ∀ n, CallOK P (callT env lf tbl n)
  | 0 => ⟨fun t args => good_fail, (fun f args s v s' w0 w φ us n r h => by cases h), (fun l args s v s' w0 w φ us n r p h => by cases h)⟩
  | n + 1 => by
    have ih := callT_ok hE hp lf hT n
    refine ⟨fun t args => ?_, fun f args s v s' w0 w φ us m r h hv hr hf => ?_, fun l args s v s' w0 w φ us m r p h hp' hv hr hf => sim_yield hE ih lf l args us s s' v φ p h hp' hv hr hf⟩
    · cases t with
      | fn f =>
        show Good (orCall (tbl f args) (callK env lf (callT env lf tbl n) (.fn f) args))
        cases tbl f args with
        | some v => exact good_ret v
        | none =>
          show Good (callK env lf (callT env lf tbl n) (.fn f) args)
          exact good_callK env lf ih.good _ _
      | yield l =>
        show Good (callK env lf (callT env lf tbl n) (.yield l) args)
        exact good_callK env lf ih.good _ _
    · have h' : orCall (tbl f args) (callK env lf (callT env lf tbl n) (.fn f) args) s = some (v, s') := h
      cases ht : tbl f args with
      | none =>
        rw [ht] at h'
        exact sim_fn hE hp ih lf f args us s s' v φ h' hv hr hf
      | some x =>
        rw [ht] at h'
        injection h' with h'; injection h' with e1 e2; subst e1; subst e2
        have e3 := plains_inv (hT.args f args x ht) hv
        subst e3
        refine ⟨fun w => hT.enter f _ x ht _ w, ?_⟩
        have hc := callsIn_wide (n := m).2 (hT.calls f _ x ht w)
        show CallsIn (FW none) m P f ⟨us⟩ w _
        rw [FW_none]
        refine hc.mono fun e w' he => ?_
        obtain ⟨e1, e2⟩ := he
        exact ⟨x, φ, e1, Le.refl _, Gr.refl _ _ _, hr.under e2, VR.plain (hT.out f _ x ht)⟩

/-- A call, told by the executor with a table. -/
theorem open_runT (hE : EnvOK P env) (hp : EnvPlain env) {tbl : Tbl} (hT : TblOK P tbl) (lf n f : Nat) (args us : List Value) (s s' : HS) (b : Bool) (w : World) (φ : Map) (h : callT env lf tbl n (.fn f) args s = some (.bool b, s')) (hv : VRs φ args us) (hr : Rel φ (baseOf w) w s.h) (hf : Fr φ s.c s'.c) :
    Calls P f ⟨us⟩ w fun e w' => e = .returned (.bool b) ∧ Below w.heap.size w w' := by
  have := ((callT_ok hE hp lf hT n).fn f args s _ s' (baseOf w) w φ us 0 none h hv hr hf).2
  rw [FW_none] at this
  refine (callsIn_wide.1 this).mono fun e w' he => ?_
  obtain ⟨u, φ', e1, _, _, r1, v1⟩ := he
  exact ⟨by rw [e1, v1.bool_inv], r1.below⟩
end
end Go.Ax
