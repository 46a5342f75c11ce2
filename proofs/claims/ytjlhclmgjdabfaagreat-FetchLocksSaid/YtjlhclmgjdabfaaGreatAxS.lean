/- The abstract executor: each of its operations stands for the model's.
Conditions: none. -/
import Derived.Test.YtjlhclmgjdabfaaGreatAxR
namespace Go.Ax
set_option linter.unusedVariables false
set_option linter.unusedSimpArgs false
set_option linter.unusedSectionVars false
open Go.RowKit (Below)

/-! ### The tables -/

structure TyOK (P : Program) (t : TypeId) (ti : TI) : Prop where
  und : P.underlying t = some ti.desc
  info : ∃ i z, P.info? t = some i ∧ i.size = ti.size ∧ i.bytes = ti.bytes ∧ i.zero = some z ∧ z.cells.toList = ti.zero ∧ (isAggD ti.desc = true → ∃ cs, z = .agg cs) ∧ (isAggD ti.desc = false → ∀ cs, z ≠ .agg cs)
  zsize : ti.zero.length = ti.size
  zcell : ∀ v ∈ ti.zero, constOK1 v = true
  scalar : isAggD ti.desc = false → ti.size = 1
  flat : ti.flat = true → P.eqGuardType P.depth t = false ∧ ∀ xs ys b (w : World), cellsEq ti.zero xs ys = some b → (Op.equal t (.agg ⟨xs⟩) (.agg ⟨ys⟩)).run P w = .ok b w

structure FnOK (P : Program) (f : FuncId) (fn : Func) : Prop where
  at_ : P.funcs[f]? = some fn
  call : ∀ args w, (callFunc f args).run P w = .ok (.enter f args) w
  lt : ∀ c, fn.body = some c → codeLt fn.ntmps c = true

structure EnvOK (P : Program) (env : Env) : Prop where
  ty : ∀ t ti, env.ty.get t = some ti → TyOK P t ti
  fn : ∀ f fn, env.fn.get f = some fn → FnOK P f fn
  mixed : P.follows .mixedOrders = true

section
variable {P : Program}

theorem run_program (w : World) : program.run P w = .ok P w := rfl
theorem TyOK.runU {t : TypeId} {ti : TI} (h : TyOK P t ti) (w : World) : (underlying t).run P w = .ok ti.desc w := run_underlying h.und w
theorem TyOK.runI {t : TypeId} {ti : TI} (h : TyOK P t ti) : ∃ i, (∀ w, (typeInfo t).run P w = .ok i w) ∧ i.size = ti.size ∧ i.bytes = ti.bytes := by
  obtain ⟨i, z, h1, h2, h3, _⟩ := h.info
  exact ⟨i, fun w => by simp [typeInfo, h1], h2, h3⟩
theorem TyOK.runS {t : TypeId} {ti : TI} (h : TyOK P t ti) (w : World) : (sizeOf t).run P w = .ok ti.size w := by
  obtain ⟨i, h1, h2, _⟩ := h.runI
  simp [sizeOf, h1, h2]
theorem TyOK.runA {t : TypeId} {ti : TI} (h : TyOK P t ti) (w : World) : (isAgg t).run P w = .ok (isAggD ti.desc) w := by
  unfold isAgg
  rw [Sem.run_bind, h.runU]
  cases ti.desc <;> rfl
theorem TyOK.runZ {t : TypeId} {ti : TI} (h : TyOK P t ti) : ∃ z, (∀ w, (zeroValue t).run P w = .ok z w) ∧ z.cells.toList = ti.zero ∧ (isAggD ti.desc = true → ∃ cs, z = .agg cs) ∧ (isAggD ti.desc = false → ∀ cs, z ≠ .agg cs) := by
  obtain ⟨i, z, h1, _, _, h4, h5, h6, h7⟩ := h.info
  exact ⟨z, fun w => by simp [zeroValue, typeInfo, h1, h4], h5, h6, h7⟩
theorem TyOK.zVR {φ : Map} {t : TypeId} {ti : TI} (h : TyOK P t ti) : VRs φ ti.zero ti.zero :=
  VRs.of_get rfl fun i v u hv hu => by rw [hv] at hu; injection hu with hu; subst hu; exact constOK1_VR (h.zcell v (List.mem_of_getElem? hv))
end

/-! ### Steps that stand for one another -/

def Sim {α β : Type} (P : Program) (w0 : Base) (φ : Map) (m : M α) (c : Sem β) (R : Map → α → β → Prop) : Prop :=
  ∀ s w v s', m s = some (v, s') → Rel φ w0 w s.h → Fr φ s.c s'.c →
    ∃ u w' φ', c.run P w = .ok u w' ∧ Le φ φ' ∧ Gr φ φ' s.c s'.c ∧ Rel φ' w0 w' s'.h ∧ R φ' v u

section
variable {P : Program} {w0 : Base} {φ : Map} {α β γ δ : Type}

theorem Sim.fail {c : Sem β} {R : Map → α → β → Prop} : Sim P w0 φ (M.fail : M α) c R := fun s w v s' h => by cases h
theorem Sim.pure {v : α} {u : β} {R : Map → α → β → Prop} (h : R φ v u) : Sim P w0 φ (M.pure v) (Pure.pure u) R := fun s w v' s' e r _ => by
  injection e with e; injection e with e1 e2; subst e1; subst e2
  exact ⟨u, w, φ, rfl, Le.refl _, Gr.refl _ _ _, r, h⟩
theorem Sim.ret {v u : Value} {R : Map → Value → Value → Prop} (h : R φ v u) : Sim P w0 φ (ret v) (Pure.pure u) R := Sim.pure h
theorem Sim.withO {o : Option α} {k : α → M β} {c : Sem γ} {R : Map → β → γ → Prop} (h : ∀ a, o = some a → Sim P w0 φ (k a) c R) : Sim P w0 φ (M.withO o k) c R := by
  cases o with
  | none => exact Sim.fail
  | some a => exact h a rfl
theorem Sim.ofO {o : Option α} {c : Sem γ} {R : Map → α → γ → Prop} (h : ∀ a, o = some a → Sim P w0 φ (M.pure a) c R) : Sim P w0 φ (M.ofO o) c R := by
  cases o with
  | none => exact Sim.fail
  | some a => exact h a rfl
theorem Sim.congr {m : M α} {c d : Sem β} {R : Map → α → β → Prop} (e : ∀ w, c.run P w = d.run P w) (h : Sim P w0 φ m d R) : Sim P w0 φ m c R :=
  fun s w v s' hm r f => let ⟨u, w', φ', h1, h2⟩ := h s w v s' hm r f; ⟨u, w', φ', by rw [e]; exact h1, h2⟩
/-- A step of the model that only looks something up. -/
theorem Sim.look {m : M α} {x : Sem δ} {a : δ} {k : δ → Sem β} {R : Map → α → β → Prop} (e : ∀ w, x.run P w = .ok a w) (h : Sim P w0 φ m (k a) R) : Sim P w0 φ m (x >>= k) R :=
  Sim.congr (fun w => by rw [Sem.run_bind, e]; rfl) h
theorem Sim.conseq {m : M α} {c : Sem β} {R R' : Map → α → β → Prop} (h : Sim P w0 φ m c R) (i : ∀ ψ v u, Le φ ψ → R ψ v u → R' ψ v u) : Sim P w0 φ m c R' :=
  fun s w v s' hm r f => let ⟨u, w', φ', h1, h2, h3, h4, h5⟩ := h s w v s' hm r f; ⟨u, w', φ', h1, h2, h3, h4, i _ _ _ h2 h5⟩
theorem Sim.bind {m : M α} {k : α → M β} {c : Sem γ} {d : γ → Sem δ} {R : Map → α → γ → Prop} {R' : Map → β → δ → Prop} (gm : Good m) (gk : ∀ v, Good (k v))
    (h : Sim P w0 φ m c R) (h' : ∀ ψ v u, Le φ ψ → R ψ v u → Sim P w0 ψ (k v) (d u) R') : Sim P w0 φ (M.bind m k) (c >>= d) R' := fun s w v s' hm r f => by
  obtain ⟨a, s1, h1, h2⟩ := bind_some hm
  have m1 := (gm _ _ _ h1).mono
  have m2 := (gk _ _ _ _ h2).mono
  obtain ⟨u, w1, ψ, c1, l1, g1, r1, q1⟩ := h s w a s1 h1 r (f.mono (Nat.le_refl _) m2)
  obtain ⟨u', w2, χ, c2, l2, g2, r2, q2⟩ := h' ψ a u l1 q1 s1 w1 v s' h2 r1 ((f.after (b := s1.c) g1 m1))
  exact ⟨u', w2, χ, by rw [Sem.run_bind, c1]; exact c2, l1.trans l2, g1.trans g2 m1 m2, r2, q2⟩
/-- The executor's second step only hands on. -/
theorem Sim.mapM {m : M α} {f : α → β} {c : Sem γ} {d : γ → Sem δ} {R : Map → α → γ → Prop} {R' : Map → β → δ → Prop} (gm : Good m)
    (h : Sim P w0 φ m c R) (h' : ∀ ψ v u, Le φ ψ → R ψ v u → Sim P w0 ψ (M.pure (f v)) (d u) R') : Sim P w0 φ (mapM f m) (c >>= d) R' :=
  Sim.bind gm (fun _ => good_pure _) h h'
/-- The model's last step only hands on. -/
theorem Sim.tail {m : M α} {c : Sem γ} {d : γ → Sem δ} {R : Map → α → γ → Prop} {R' : Map → α → δ → Prop}
    (h : Sim P w0 φ m c R) (h' : ∀ ψ v u, R ψ v u → ∃ x, (∀ w, (d u).run P w = .ok x w) ∧ R' ψ v x) : Sim P w0 φ m (c >>= d) R' := fun s w v s' hm r f => by
  obtain ⟨u, w1, ψ, c1, l1, g1, r1, q1⟩ := h s w v s' hm r f
  obtain ⟨x, hx, hr⟩ := h' _ _ _ q1
  exact ⟨x, w1, ψ, by rw [Sem.run_bind, c1]; exact hx w1, l1, g1, r1, hr⟩
theorem Sim.force {n : Nat} {k : Nat → M α} {c : Sem β} {R : Map → α → β → Prop} (h : Sim P w0 φ (k n) c R) : Sim P w0 φ (force n k) c R := by rw [force_eq]; exact h
/-- The executor looks at an object. -/
theorem Sim.getObj {b : Nat} {k : AObj → M α} {c : Sem β} {R : Map → α → β → Prop}
    (h : ∀ o s w v s', s.h.get b = some o → k o s = some (v, s') → Rel φ w0 w s.h → Fr φ s.c s'.c → ∃ u w' φ', c.run P w = .ok u w' ∧ Le φ φ' ∧ Gr φ φ' s.c s'.c ∧ Rel φ' w0 w' s'.h ∧ R φ' v u) :
    Sim P w0 φ (M.bind (getObj b) k) c R := fun s w v s' hm r f => by
  obtain ⟨a, s1, h1, h2⟩ := bind_some hm
  unfold Ax.getObj at h1
  cases hg : s.h.get b with
  | none => rw [hg] at h1; cases h1
  | some o =>
    rw [hg] at h1
    injection h1 with h1; injection h1 with e1 e2; subst e1; subst e2
    exact h o s w v s' hg h2 r f
end

/-! ### Operands -/

section
variable {P : Program} {w0 : Base} {φ : Map} {tm : T Value} {a : Act}

theorem ev_VR (ht : TR φ tm a.tmps) {x : Operand} {v : Value} (h : ev x tm = some v) : VR φ v (a.eval x) := by
  cases x with
  | tmp t =>
    simp only [ev] at h
    cases hg : tm.get t with
    | none =>
      rw [hg] at h; simp only [evT, Option.some.injEq] at h; subst h
      show VR φ undef' (a.tmps.getD t undef)
      rw [ht.none t hg]; exact .tuple [] [] .nil
    | some v' =>
      rw [hg] at h; simp only [evT, Option.some.injEq] at h; subst h
      obtain ⟨u, h1, h2⟩ := ht.val t _ hg
      show VR φ v' (a.tmps.getD t undef)
      rw [Array.getD_eq_getD_getElem?, h1]; exact h2
  | const v' =>
    simp only [ev, evC] at h
    split at h
    · rename_i hc; injection h with h; subst h; exact constOK_VR hc
    · cases h
  | global g => simp [ev] at h
  | func f =>
    simp only [ev, Option.some.injEq] at h; subst h
    exact .func f [] [] [] [] .nil .nil

theorem evs_VR (ht : TR φ tm a.tmps) : ∀ {l : List Operand} {vs : List Value}, evs l tm = some vs → VRs φ vs (l.map a.eval) := by
  intro l
  induction l with
  | nil => intro vs h; have : vs = [] := by have h' : some [] = some vs := h; injection h' with h'; exact h'.symm
           subst this; exact .nil
  | cons x l ih =>
    intro vs h
    have h' : evsN (ev x tm) (evs l tm) = some vs := h
    cases hx : ev x tm with
    | none => rw [hx] at h'; cases h'
    | some v =>
      cases hl : evs l tm with
      | none => rw [hx, hl] at h'; cases h'
      | some l' =>
        rw [hx, hl] at h'
        simp only [evsN, T.consO, Option.some.injEq] at h'
        subst h'
        exact .cons (ev_VR ht hx) (ih hl)

def VRO (φ : Map) : Option Value → Option Value → Prop
  | none, none => True
  | some v, some u => VR φ v u
  | _, _ => False

theorem evO_VR (ht : TR φ tm a.tmps) {o : Option Operand} {v : Option Value} (h : evO o tm = some v) : VRO φ v (o.map a.eval) := by
  cases o with
  | none => simp only [evO, Option.some.injEq] at h; subst h; trivial
  | some x =>
    simp only [evO] at h
    cases hx : ev x tm with
    | none => rw [hx] at h; cases h
    | some v' => rw [hx] at h; simp only [Option.some.injEq] at h; subst h; exact ev_VR ht hx

/-! ### Memory -/

theorem sim_loadN {b off : Nat} {x : Addr} {n : Nat} (h : VR φ (.pointer (some ⟨b, off, none⟩)) (.pointer (some x))) :
    Sim P w0 φ (loadN ⟨b, off, none⟩ n) (loadCells x n) (fun ψ l us => VRs ψ l us.toList ∧ l.length = n) := by
  cases h with
  | ptr _ _ p hp =>
    unfold loadN
    refine Sim.getObj fun o s w v s' hg hk r f => ?_
    unfold loadB at hk
    split at hk
    · rename_i size es tight ro cs
      rw [nble] at hk
      by_cases hle : Nat.add off n ≤ size
      · rw [decide_eq_true hle] at hk
        cases hr : cs.read n off with
        | none => rw [hr] at hk; cases hk
        | some l =>
          rw [hr] at hk
          injection hk with hk; injection hk with e1 e2; subst e1; subst e2
          obtain ⟨q, hq, hl⟩ := r.live _ _ _ _ _ _ hg
          rw [hp] at hq; injection hq with hq; subst hq
          obtain ⟨hlen, hget⟩ := T.read_some _ _ _ _ hr
          have hle' : off + n ≤ size := hle
          have hc : ∀ j, j < n → ∃ u, w.cell? ((⟨p.blk, p.base + off, none⟩ : Addr).add j) = some u ∧ ∃ v, l[j]? = some v ∧ VR φ v u := by
            intro j hj
            obtain ⟨v, u, h1, h2, h3⟩ := hl.val (off + j) (by omega)
            rw [hget j hj] at h1
            exact ⟨u, by rw [at_add p j p.blk off rfl]; exact h2, v, h1, h3⟩
          refine ⟨((List.range n).map fun j => (w.cell? ((⟨p.blk, p.base + off, none⟩ : Addr).add j)).getD undef).toArray, w, φ, ?_, Le.refl _, Gr.refl _ _ _, r, ?_, hlen⟩
          · refine run_loadCells w _ n _ fun j hj => ?_
            obtain ⟨u, hu, _⟩ := hc j hj
            rw [hu]; rfl
          · refine VRs.of_get (by simp [hlen]) fun i v u hv hu => ?_
            have hi : i < n := by rw [← hlen]; exact (List.getElem?_eq_some_iff.1 hv).1
            obtain ⟨u', hu', v', hv', h3⟩ := hc i hi
            rw [hv] at hv'; injection hv' with hv'; subst hv'
            simp only [List.getElem?_map, List.getElem?_range hi, Option.map_some, Option.some.injEq] at hu
            rw [hu'] at hu; simp only [Option.getD_some] at hu; subst hu; exact h3
      · rw [decide_eq_false hle] at hk; cases hk
    · cases hk

theorem sim_storeN {b off : Nat} {x : Addr} {l us : List Value} (h : VR φ (.pointer (some ⟨b, off, none⟩)) (.pointer (some x))) (hv : VRs φ l us) :
    Sim P w0 φ (storeN ⟨b, off, none⟩ l) (storeCells x us) (fun _ _ _ => True) := by
  cases h with
  | ptr _ _ p hp =>
    unfold storeN
    simp only []
    split
    · rename_i hall
      rw [allCells_iff] at hall
      refine Sim.getObj fun o s w v s' hg hk r f => ?_
      unfold storeB at hk
      split at hk
      · rename_i size es tight ro cs
        split at hk
        · cases hk
        · rw [nble, lenL_eq] at hk
          by_cases hle : Nat.add off l.length ≤ size
          · rw [decide_eq_true hle] at hk
            have hset : setObj b (.cells size es tight false (T.write l cs off)) s = some (v, s') := hk
            unfold setObj at hset
            rw [hg] at hset
            injection hset with hset; injection hset with e1 e2; subst e2
            obtain ⟨q, hq, hl⟩ := r.live _ _ _ _ _ _ hg
            rw [hp] at hq; injection hq with hq; subst hq
            have hle' : off + l.length ≤ size := hle
            have hlen := hv.length
            have hext := hl.hsize
            refine ⟨(), w.setCells p.blk (p.base + off) us, φ, ?_, Le.refl _, Gr.refl _ _ _, r.store hg hp off l us hv hle', trivial⟩
            have := run_storeCells_cells (P := P) p.blk (p.base + off) us 0 w (fun j hj => ?_) (fun j hj => ?_) (fun u hu => ?_)
            · exact this
            · have := hl.cell (off + j) (by omega)
              unfold Pl.at at this; rwa [← Nat.add_assoc] at this
            · have := (hl.own rfl).2 (off + j) (by omega)
              unfold Pl.at at this; rwa [← Nat.add_assoc] at this
            · obtain ⟨i, hi, hiu⟩ := List.getElem_of_mem hu
              have hil : i < l.length := by omega
              obtain ⟨u', hu', hvr⟩ := hv.get (List.getElem?_eq_getElem hil)
              rw [List.getElem?_eq_getElem hi, hiu] at hu'; injection hu' with hu'; subst hu'
              exact oneCell_of hvr (hall _ (List.getElem_mem hil))
          · rw [decide_eq_false hle] at hk; cases hk
      · cases hk
    · exact Sim.fail

theorem sim_newCells (es : Nat) (tight : Bool) (n : Nat) {l us ext : List Value} (hn : n = l.length) (e : TypeId) (hv : VRs φ l us) :
    Sim P w0 φ (newCells es tight n l) (newRow e ⟨us ++ ext⟩) (fun ψ b x => ψ b = some ⟨x.block, 0, (us ++ ext).length, es, tight⟩ ∧ x.off = 0 ∧ x.spot = none) := by
  subst hn
  intro s w v s' hm r f
  unfold newCells at hm
  rw [newObj_eq] at hm
  injection hm with hm; injection hm with e1 e2; subst e1; subst e2
  have hc : φ s.c = none := f _ (Nat.le_refl _) (Nat.lt_succ_self _)
  refine ⟨⟨w.heap.size, 0, none⟩, w.alloc (.cells ⟨us ++ ext⟩ e), _, rfl, put_le _ hc, put_gr _ _ _, r.new hc es tight l us ext e hv (T.ofList l) (fun i _ => T.get_ofList l i), put_self _ _ _, rfl, rfl⟩
end
end Go.Ax
