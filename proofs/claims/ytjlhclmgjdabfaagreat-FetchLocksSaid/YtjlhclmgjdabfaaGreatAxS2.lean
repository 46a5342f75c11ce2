/- The abstract executor: its operations stand for the model's: reads, writes, new variables, parts, arithmetic.
Conditions: none. -/
import Derived.Laws.Strings
import Derived.Test.YtjlhclmgjdabfaaGreatAxS
namespace Go.Ax
set_option linter.unusedVariables false
set_option linter.unusedSimpArgs false
set_option linter.unusedSectionVars false
open Go.RowKit (Below)

def RVal (ψ : Map) (v u : Value) : Prop := VR ψ v u
/-- What an operation comes to. -/
def RNext (ψ : Map) (v : Value) (n : Next) : Prop := (∃ u, n = .value u ∧ VR ψ v u) ∨ (n = .skip ∧ v = undef')

section
variable {P : Program} {w0 : Base} {φ : Map} {tm : T Value} {a : Act} {env : Env}

theorem Sim.value {m : M Value} {s : Sem Value} (h : Sim P w0 φ m s RVal) : Sim P w0 φ m (do Pure.pure (.value (← s)) : Sem Next) RNext :=
  Sim.tail h fun _ _ _ hr => ⟨_, fun _ => rfl, .inl ⟨_, rfl, hr⟩⟩
theorem Sim.unit {m : M Unit} {s : Sem Unit} {k : Unit → M Value} (gm : Good m) (hk : k = unitV) (h : Sim P w0 φ m s (fun _ _ _ => True)) : Sim P w0 φ (M.bind m k) (do s; Pure.pure .skip : Sem Next) RNext := by
  subst hk
  exact Sim.bind gm (fun _ => good_ret _) h fun _ _ _ _ _ => Sim.pure (.inr ⟨rfl, rfl⟩)

theorem VR.bool_inv {b : Bool} {u : Value} (h : VR φ (.bool b) u) : u = .bool b := by cases h; rfl
theorem VR.int_inv {k : IntKind} {n : Int} {u : Value} (h : VR φ (.int k n) u) : u = .int k n := by cases h; rfl
theorem VR.str_inv {s : ByteArray} {u : Value} (h : VR φ (.string s) u) : u = .string s := by cases h; rfl

theorem sim_move (ht : TR φ tm a.tmps) (x : Operand) : Sim P w0 φ (M.ofO (ev x tm)) (Pure.pure (.value (a.eval x)) : Sem Next) RNext :=
  Sim.ofO fun _ hv => Sim.pure (.inl ⟨_, rfl, ev_VR ht hv⟩)

theorem sim_pick (ht : TR φ tm a.tmps) (c x y : Operand) (call : CallH) :
    Sim P w0 φ (opPick c x y env call tm) (do Pure.pure (.value (if ← asBool (a.eval c) then a.eval x else a.eval y)) : Sem Next) RNext := by
  unfold opPick
  split
  · rename_i hc
    have := (ev_VR ht hc).bool_inv
    rw [this]
    exact Sim.ofO fun _ hv => Sim.pure (.inl ⟨_, rfl, ev_VR ht hv⟩)
  · rename_i hc
    have := (ev_VR ht hc).bool_inv
    rw [this]
    exact Sim.ofO fun _ hv => Sim.pure (.inl ⟨_, rfl, ev_VR ht hv⟩)
  · exact Sim.fail

/-- A new variable, and its address. -/
theorem sim_newVar {l : List Value} {us : Array Value} (t : TypeId) (hv : VRs φ l us.toList) :
    Sim P w0 φ (mapM pAddr (newCells 1 true (lenL l) l)) (do Pure.pure (.pointer (some (← newRow t us))) : Sem Value) RVal := by
  have h := sim_newCells (P := P) (w0 := w0) 1 true (lenL l) (lenL_eq l) (ext := []) t hv
  refine Sim.mapM (good_newCells _ _ _ _) (c := newRow t us) (by simpa using h) fun ψ b x _ hx => Sim.pure ?_
  obtain ⟨h1, h2, h3⟩ := hx
  obtain ⟨xb, xo, xs⟩ := x
  simp only at h2 h3; subst h2; subst h3
  exact .ptr b 0 _ h1

theorem sim_alloc (hE : EnvOK P env) (t : TypeId) (call : CallH) : Sim P w0 φ (opAlloc t env call tm) (do Pure.pure (.value (← Instr.alloc t true (.tuple #[]))) : Sem Next) RNext := by
  unfold opAlloc
  refine Sim.withO fun ti hti => Sim.value ?_
  obtain ⟨z, hz, hz1, _⟩ := (hE.ty _ _ hti).runZ
  unfold Instr.alloc
  refine Sim.look hz ?_
  simp only
  unfold newVar
  refine sim_newVar t ?_
  rw [hz1]; exact (hE.ty _ _ hti).zVR

theorem sim_box (ht : TR φ tm a.tmps) (t : TypeId) (x : Operand) (call : CallH) : Sim P w0 φ (opBox x env call tm) (do Pure.pure (.value (← Instr.box t (a.eval x))) : Sem Next) RNext := by
  unfold opBox
  refine Sim.withO fun v hv => Sim.value ?_
  have hr := ev_VR ht hv
  unfold boxV
  split
  · exact Sim.fail
  · unfold Instr.box newVar
    exact sim_newVar t hr.cells

theorem ptr_inv {b off : Nat} {u : Value} (h : VR φ (.pointer (some ⟨b, off, none⟩)) u) : ∃ p, φ b = some p ∧ u = .pointer (some ⟨p.blk, p.base + off, none⟩) := by
  cases h with | ptr _ _ p hp => exact ⟨p, hp, rfl⟩
theorem ptr_spot {x : Addr} {u : Value} (h : VR φ (.pointer (some x)) u) : ∃ b off p, x = ⟨b, off, none⟩ ∧ φ b = some p ∧ u = .pointer (some ⟨p.blk, p.base + off, none⟩) := by
  cases h with | ptr b off p hp => exact ⟨b, off, p, rfl, hp, rfl⟩

theorem run_isAggD (d : TypeDesc) (w : World) : ((match d with | .struct _ | .array _ _ => Pure.pure true | _ => Pure.pure false : Sem Bool)).run P w = .ok (isAggD d) w := by cases d <;> rfl

theorem sim_loadVar (hE : EnvOK P env) {t : TypeId} {ti : TI} (hti : env.ty.get t = some ti) {x y : Addr} (h : VR φ (.pointer (some x)) (.pointer (some y))) :
    Sim P w0 φ (loadV ti x) (loadVar t y) RVal := by
  have hT := hE.ty _ _ hti
  obtain ⟨b, off, p, rfl, hp, hy⟩ := ptr_spot h
  unfold loadVar
  refine Sim.look hT.runA ?_
  unfold loadV
  cases hagg : isAggD ti.desc with
  | true =>
    simp only [if_true]
    refine Sim.look hT.runS ?_
    refine Sim.bind (good_loadN _ _) (fun _ => good_ret _) (sim_loadN h) fun ψ l us _ hr => Sim.pure ?_
    obtain ⟨us⟩ := us
    exact .agg l us hr.1
  | false =>
    simp only [Bool.false_eq_true, if_false]
    have hl := sim_loadN (P := P) (w0 := w0) (n := 1) h
    refine Sim.congr (d := (loadCells y 1) >>= fun us => (match us.toList with | [u] => Pure.pure u | _ => stuck "")) (fun w => ?_) ?_
    · show (load y).run P w = ((load (y.add 0) >>= fun v => Pure.pure (#[].push v)) >>= _).run P w
      rw [Sem.run_bind, Sem.run_bind]
      have : y.add 0 = y := by unfold Addr.add; rfl
      rw [this]
      cases (load y).run P w <;> rfl
    · refine Sim.bind (good_loadN _ _) (fun l => ?_) hl fun ψ l us _ hr => ?_
      · unfold one; split
        · exact good_ret _
        · exact good_fail
      · obtain ⟨h1, h2⟩ := hr
        obtain ⟨us⟩ := us
        cases h1 with
        | nil => simp at h2
        | cons hv hs =>
          cases hs with
          | nil => exact Sim.pure hv
          | cons _ _ => simp at h2

theorem sim_load (hE : EnvOK P env) (ht : TR φ tm a.tmps) (t : TypeId) (x : Operand) (call : CallH) :
    Sim P w0 φ (opLoad t x env call tm) (do Pure.pure (.value (← Instr.loadAt t (a.eval x))) : Sem Next) RNext := by
  unfold opLoad
  refine Sim.withO fun ti hti => Sim.withO fun v hv => Sim.value ?_
  have hr := ev_VR ht hv
  unfold ptrK
  split
  · rename_i y
    obtain ⟨b, off, p, rfl, hp, hy⟩ := ptr_spot hr
    unfold Instr.loadAt
    rw [hy] at hr ⊢
    exact Sim.look (x := Instr.sureAddr _) (fun _ => rfl) (sim_loadVar hE hti hr)
  · exact Sim.fail

theorem cells_len {v u : Value} (h : VR φ v u) : u.cells.size = (cellsOf v).length := by
  rw [h.cells.length]; rfl

theorem sim_store (hE : EnvOK P env) (ht : TR φ tm a.tmps) (t : TypeId) (x y : Operand) (call : CallH) :
    Sim P w0 φ (opStore t x y env call tm) (do Instr.storeAt t (a.eval x) (a.eval y); Pure.pure .skip : Sem Next) RNext := by
  unfold opStore
  refine Sim.withO fun ti hti => Sim.withO fun v hv => Sim.withO fun p hp => ?_
  have hrv := ev_VR ht hv
  have hrp := ev_VR ht hp
  have hT := hE.ty _ _ hti
  unfold ptrK
  split
  · rename_i z
    obtain ⟨b, off, q, rfl, hq, hz⟩ := ptr_spot hrp
    unfold storeV
    split
    · rename_i hlen
      rw [T.nbeq, decide_eq_true_eq, lenL_eq] at hlen
      by_cases hnt : ∃ l, v = .tuple l
      · obtain ⟨l, rfl⟩ := hnt
        intro s w v' s' hm
        exfalso
        obtain ⟨_, s1, h1, _⟩ := bind_some hm
        unfold storeN at h1
        simp only [cellsOf] at h1
        have : allCells [Value.tuple l] = false := rfl
        rw [this] at h1; cases h1
      · refine Sim.unit (good_storeN _ _) rfl ?_
        unfold Instr.storeAt
        rw [hz] at hrp ⊢
        refine Sim.look (x := Instr.sureAddr _) (fun _ => rfl) ?_
        unfold storeVar
        refine Sim.look hT.runS ?_
        rw [if_neg (by rw [cells_len hrv, hlen]; exact fun h => h rfl)]
        exact sim_storeN hrp hrv.cells
    · exact Sim.fail
  · exact Sim.fail

theorem sim_nil (ht : TR φ tm a.tmps) (o : Oper) (x : Operand) (ho : o.op = .nilCheck x) (call : CallH) : Sim P w0 φ (opNil x env call tm) (Go.execOp a.eval o) RNext := by
  unfold opNil
  refine Sim.withO fun v hv => ?_
  have hr := ev_VR ht hv
  unfold nilK Go.execOp
  rw [ho]
  simp only
  split
  · obtain ⟨b, off, p, rfl, hp, hy⟩ := ptr_spot hr
    rw [hy] at hr ⊢
    exact Sim.pure (.inl ⟨_, rfl, hr⟩)
  · generalize a.eval x = u at hr ⊢
    cases hr with
    | func _ _ _ _ _ h h' => exact Sim.pure (.inl ⟨_, rfl, .func _ _ _ _ _ h h'⟩)
  · generalize a.eval x = u at hr ⊢
    cases hr with
    | yield _ p h => exact Sim.pure (.inl ⟨_, rfl, .yield _ p h⟩)
  · exact Sim.fail

/-! ### Arithmetic -/

theorem cellEq_same {z x y : Value} {b : Bool} (h : cellEq z x y = some b) {x' y' : Value} (hx : VR φ x x') (hy : VR φ y y') : x' = x ∧ y' = y := by
  unfold cellEq at h
  split at h
  · exact ⟨hx.int_inv, hy.int_inv⟩
  · exact ⟨hx.bool_inv, hy.bool_inv⟩
  · cases h

theorem cellsEq_same : ∀ {z l m l' m' : List Value} {b : Bool}, cellsEq z l m = some b → VRs φ l l' → VRs φ m m' → l' = l ∧ m' = m
  | [], l, m, l', m', b, h, hl, hm => by
    unfold cellsEq at h
    cases l with
    | nil => cases m with
      | nil => cases hl; cases hm; exact ⟨rfl, rfl⟩
      | cons => cases h
    | cons => cases h
  | z :: zs, l, m, l', m', b, h, hl, hm => by
    unfold cellsEq at h
    cases l with
    | nil => cases h
    | cons x l => cases m with
      | nil => cases h
      | cons y m =>
        simp only [andO] at h
        split at h
        · cases h
        · rename_i c hc
          split at h
          · cases h
          · rename_i d hd
            cases hl with
            | cons hx hl => cases hm with
              | cons hy hm =>
                obtain ⟨e1, e2⟩ := cellEq_same hc hx hy
                obtain ⟨e3, e4⟩ := cellsEq_same hd hl hm
                exact ⟨by rw [e1, e3], by rw [e2, e4]⟩


theorem eqGuard_pure (op : BinOp) (t : TypeId) (x y : Operand) (u v : Value) (h : ∀ xs, u ≠ .agg xs) (h' : u ≠ .nilIface) (w : World) : (eqGuard op t x y u v).run P w = .ok () w := by
  unfold eqGuard
  cases op <;> simp <;> (cases u <;> cases v <;> first | rfl | exact absurd rfl (h _) | exact absurd rfl h')

theorem isNil_eq {α : Type} (o : Option α) : isNil o = o.isNone := by cases o <;> rfl

theorem boolEq (a b : Bool) : (a == b) = decide (a = b) := by cases a <;> cases b <;> rfl

theorem eqlV_run {t : TypeId} {ti : TI} (hT : TyOK P t ti) {x y x' y' : Value} (hx : VR φ x x') (hy : VR φ y y') {b : Bool} (h : eqlV ti x y = some b) (hna : ∀ xs, x ≠ .agg xs) (w : World) :
    (Op.equal t x' y').run P w = .ok b w := by
  have hu := hT.runU w
  unfold Op.equal Op.equalIn
  simp only [Op.maxDepth]
  rw [Sem.run_bind, hu, Result.andThen_ok]
  unfold eqlV at h
  split at h
  · exact absurd rfl (hna _)
  · rename_i hd
    rw [hd]
    cases hx; cases hy
    simp only [Option.some.injEq] at h; subst h; rfl
  · rename_i hd
    rw [hd]
    cases hx
    simp only [Option.some.injEq] at h; subst h
    rw [isNil_eq]
    cases hy <;> rfl
  · rename_i hd
    rw [hd]
    obtain ⟨_, _, _, _, _, rfl⟩ := ptr_spot hx
    cases hy
    simp only [Option.some.injEq] at h; subst h; rfl
  · rename_i hd
    rw [hd]
    cases hx
    simp only [Option.some.injEq] at h; subst h
    rw [isNil_eq]
    cases hy <;> rfl
  · rename_i hd
    rw [hd]
    simp only [Option.some.injEq] at h; subst h
    cases hy
    cases hx <;> rfl
  · cases h

theorem sim_bin (hE : EnvOK P env) (ht : TR φ tm a.tmps) (op : BinOp) (t : TypeId) (x y : Operand) (call : CallH) :
    Sim P w0 φ (opBin op t x y env call tm) (do Pure.pure (.value (← (do eqGuard op t x y (a.eval x) (a.eval y); binOp op t (a.eval x) (a.eval y)))) : Sem Next) RNext := by
  unfold opBin
  refine Sim.withO fun ti hti => Sim.withO fun u hu => Sim.withO fun v hv => Sim.value ?_
  have hru := ev_VR ht hu
  have hrv := ev_VR ht hv
  have hT := hE.ty _ _ hti
  refine Sim.ofO fun r hr => ?_
  unfold binV at hr
  split at hr
  · rename_i k n k' m
    rw [hru.int_inv, hrv.int_inv]
    refine Sim.congr (d := Pure.pure r) (fun w => ?_) (Sim.pure ?_)
    · rw [Sem.run_bind, eqGuard_pure _ _ _ _ _ _ (by simp) (by simp)]
      exact binII_run _ _ _ _ _ _ _ hr
    · unfold binII at hr
      split at hr
      · unfold shI at hr; (repeat' split at hr) <;> (try (simp only [ofI, Option.some.injEq] at hr; subst hr; exact .int _ _)) <;> cases hr
      · unfold shI at hr; (repeat' split at hr) <;> (try (simp only [ofI, Option.some.injEq] at hr; subst hr; exact .int _ _)) <;> cases hr
      · split at hr
        · unfold binI at hr; (repeat' split at hr) <;> (try (simp only [ofI, ofB, Option.some.injEq] at hr; subst hr; first | exact .int _ _ | exact .bool _)) <;> cases hr
        · cases hr
  · rename_i s1 s2
    rw [hru.str_inv, hrv.str_inv]
    have hlist : ∀ s : ByteArray, s.toList = s.data.toList := ByteArray.toList_eq
    have hbe : ∀ l m : List UInt8, (l == m) = decide (l = m) := fun l m => by rw [Bool.eq_iff_iff]; simp
    unfold binS at hr
    split at hr
    · simp only [ofB, Option.some.injEq] at hr; subst hr
      refine Sim.congr (d := Pure.pure (Value.bool (listEqB s1.data.toList s2.data.toList))) (fun w => ?_) (Sim.pure (VR.bool _))
      rw [Sem.run_bind, eqGuard_pure _ _ _ _ _ _ (by simp) (by simp), listEqB_eq]
      show Sem.run P (Op.stringOp .eql s1 s2) w = _
      unfold Op.stringOp
      simp only [Sem.run_pure, hlist]
      rw [hbe]
    · simp only [ofB, Option.some.injEq] at hr; subst hr
      refine Sim.congr (d := Pure.pure (Value.bool (!listEqB s1.data.toList s2.data.toList))) (fun w => ?_) (Sim.pure (VR.bool _))
      rw [Sem.run_bind, eqGuard_pure _ _ _ _ _ _ (by simp) (by simp), listEqB_eq]
      show Sem.run P (Op.stringOp .neq s1 s2) w = _
      unfold Op.stringOp
      simp only [Sem.run_pure, hlist]
      rw [hbe]
    · cases hr
  · rename_i hni hns
    have key : ∀ b, eqlV ti u v = some b → ∀ w, (do eqGuard op t x y (a.eval x) (a.eval y); Op.equal t (a.eval x) (a.eval y) : Sem Bool).run P w = .ok b w := by
      intro b hb w
      by_cases hagg : ∃ xs, u = .agg xs
      · obtain ⟨xs, rfl⟩ := hagg
        unfold eqlV at hb
        split at hb
        · rename_i xs' ys hxs
          injection hxs with hxs; subst hxs
          split at hb
          · rename_i hf
            generalize a.eval x = u' at hru
            generalize a.eval y = v' at hrv
            cases hru with
            | agg l l' h1 =>
              cases hrv with
              | agg m m' h2 =>
                obtain ⟨f1, f2⟩ := hT.flat hf
                obtain ⟨e1, e2⟩ := cellsEq_same hb h1 h2
                subst e1; subst e2
                have hg : (eqGuard op t x y (.agg ⟨l'⟩) (.agg ⟨m'⟩)).run P w = .ok () w := by
                  unfold eqGuard
                  cases op <;> simp [Sem.run_bind, run_program, f1]
                rw [Sem.run_bind, hg]
                exact f2 _ _ _ w hb
          · cases hb
        · rename_i hxs; cases hxs
        · rename_i hxs; cases hxs
        · rename_i hxs; cases hxs
        · rename_i hxs; cases hxs
        · rename_i hxs; cases hxs
        · cases hb
      · have hna : ∀ xs, u ≠ .agg xs := fun xs e => hagg ⟨xs, e⟩
        have hnn : u ≠ .nilIface := by
          intro e; subst e; unfold eqlV at hb; split at hb <;> simp_all
        rw [Sem.run_bind, eqGuard_pure _ _ _ _ _ _ ?_ ?_]
        · exact eqlV_run hT hru hrv hb hna w
        · intro xs e; rw [e] at hru; cases hru; exact hna _ rfl
        · intro e; rw [e] at hru; cases hru; exact hnn rfl
    have hne : ∀ k n k' m, ¬ (a.eval x = .int k n ∧ a.eval y = .int k' m) := by
      intro k n k' m ⟨e1, e2⟩
      rw [e1] at hru; rw [e2] at hrv
      cases hru; cases hrv
      exact hni _ _ _ _ rfl rfl
    have hns' : ∀ s1 s2, ¬ (a.eval x = .string s1 ∧ a.eval y = .string s2) := by
      intro s1 s2 ⟨e1, e2⟩
      rw [e1] at hru; rw [e2] at hrv
      cases hru; cases hrv
      exact hns _ _ rfl rfl
    have hnf : ∀ k n, a.eval x ≠ .float k n := fun k n e => by rw [e] at hru; cases hru
    have hncx : ∀ k n m, a.eval x ≠ .complex k n m := fun k n m e => by rw [e] at hru; cases hru
    split at hr
    · split at hr
      · rename_i b hb
        simp only [ofB, Option.some.injEq] at hr; subst hr
        refine Sim.congr (d := Pure.pure (Value.bool b)) (fun w => ?_) (Sim.pure (VR.bool _))
        have hk := key b hb w
        rw [Sem.run_bind] at hk ⊢
        have : binOp .eql t (a.eval x) (a.eval y) = (do Pure.pure (.bool (← Op.equal t (a.eval x) (a.eval y)))) := by
          unfold binOp
          split <;> first
            | rfl
            | exact absurd ⟨‹_›, ‹_›⟩ (hne _ _ _ _)
            | exact absurd ⟨‹_›, ‹_›⟩ (hns' _ _)
            | exact absurd ‹_› (hnf _ _)
            | exact absurd ‹_› (hncx _ _ _)
            | simp_all
        rw [this]
        cases hg : (eqGuard .eql t x y (a.eval x) (a.eval y)).run P w with
        | halt h w' => rw [hg] at hk; simp at hk
        | ok u w' =>
          rw [hg, Result.andThen_ok] at hk
          rw [Result.andThen_ok, Sem.run_bind, hk]; rfl
      · cases hr
    · split at hr
      · rename_i b hb
        simp only [ofB, Option.some.injEq] at hr; subst hr
        refine Sim.congr (d := Pure.pure (Value.bool (!b))) (fun w => ?_) (Sim.pure (VR.bool _))
        have hk := key b hb w
        rw [Sem.run_bind] at hk ⊢
        have : binOp .neq t (a.eval x) (a.eval y) = (do Pure.pure (.bool (!(← Op.equal t (a.eval x) (a.eval y))))) := by
          unfold binOp
          split <;> first
            | rfl
            | exact absurd ⟨‹_›, ‹_›⟩ (hne _ _ _ _)
            | exact absurd ⟨‹_›, ‹_›⟩ (hns' _ _)
            | exact absurd ‹_› (hnf _ _)
            | exact absurd ‹_› (hncx _ _ _)
            | simp_all
        rw [this]
        cases hg : (eqGuard .neq t x y (a.eval x) (a.eval y)).run P w with
        | halt h w' => rw [hg] at hk; simp at hk
        | ok u w' =>
          rw [hg, Result.andThen_ok] at hk
          rw [Result.andThen_ok, Sem.run_bind, hk]; rfl
      · cases hr
    · cases hr

end
end Go.Ax
