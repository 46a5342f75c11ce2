/- The abstract executor: regions whose order is open: what the executor's order comes to, every order comes to.
Conditions: none. -/
import Derived.Test.YtjlhclmgjdabfaaGreatAxW
namespace Go.Ax
set_option linter.unusedVariables false
set_option linter.unusedSimpArgs false
set_option linter.unusedSectionVars false
open Go.RowKit (Below)

/-! ### An operation sees only its operands -/

section
variable {env : Env} {call : CallH}

theorem ev_congr {tm tm2 : T Value} (x : Operand) (h : ∀ t, x = .tmp t → tm.get t = tm2.get t) : ev x tm = ev x tm2 := by
  cases x with
  | tmp t => show evT (tm.get t) = evT (tm2.get t); rw [h t rfl]
  | _ => rfl
theorem evs_congr {tm tm2 : T Value} : ∀ (l : List Operand), (∀ t, .tmp t ∈ l → tm.get t = tm2.get t) → evs l tm = evs l tm2
  | [], _ => rfl
  | x :: l, h => by
    show evsN (ev x tm) (evs l tm) = evsN (ev x tm2) (evs l tm2)
    rw [ev_congr x (fun t e => h t (by rw [← e]; exact List.mem_cons_self)), evs_congr l (fun t ht => h t (List.mem_cons_of_mem _ ht))]
theorem evPs_congr {tm tm2 : T Value} : ∀ (l : List (Nat × Operand)), (∀ t, .tmp t ∈ l.map (·.2) → tm.get t = tm2.get t) → evPs l tm = evPs l tm2
  | [], _ => rfl
  | (i, x) :: l, h => by
    unfold evPs
    rw [ev_congr x (fun t e => h t (by rw [← e]; exact List.mem_cons_self)), evPs_congr l (fun t ht => h t (List.mem_cons_of_mem _ ht))]
theorem evO_congr {tm tm2 : T Value} (o : Option Operand) (h : ∀ t, .tmp t ∈ o.toList → tm.get t = tm2.get t) : evO o tm = evO o tm2 := by
  cases o with
  | none => rfl
  | some x =>
    show (match ev x tm with | none => none | some v => some (some v)) = (match ev x tm2 with | none => none | some v => some (some v))
    rw [ev_congr x (fun t e => h t (by simp [e]))]

theorem mem_tmpsOf {t : Tmp} : ∀ {l : List Operand}, t ∈ tmpsOf l ↔ .tmp t ∈ l
  | [] => by simp [tmpsOf]
  | x :: l => by
    unfold tmpsOf
    cases x with
    | tmp u => simp [mem_tmpsOf (l := l)]
    | _ => simp [mem_tmpsOf (l := l)]

theorem execOp_congr {tm tm2 : T Value} (o : Op) (h : ∀ t, .tmp t ∈ o.operands.toList → tm.get t = tm2.get t) : execOp o env call tm = execOp o env call tm2 := by
  have one : ∀ x, x ∈ o.operands.toList → ev x tm = ev x tm2 := fun x hx => ev_congr x fun t e => h t (e ▸ hx)
  cases o with
  | move x => show M.ofO (ev x tm) = M.ofO (ev x tm2); rw [one x (by simp [Op.operands])]
  | assign x => show M.ofO (ev x tm) = M.ofO (ev x tm2); rw [one x (by simp [Op.operands])]
  | pick c x y => show opPick c x y env call tm = opPick c x y env call tm2; unfold opPick; rw [one c (by simp [Op.operands]), one x (by simp [Op.operands]), one y (by simp [Op.operands])]
  | alloc t => rfl
  | box t x => show opBox x env call tm = opBox x env call tm2; unfold opBox; rw [one x (by simp [Op.operands])]
  | build t ps => show opBuild t ps env call tm = opBuild t ps env call tm2; unfold opBuild; rw [evPs_congr ps.toList (fun t ht => h t (by simpa [Op.operands] using ht))]
  | buildSlice t n ps => show opBuildSlice t n ps env call tm = opBuildSlice t n ps env call tm2; unfold opBuildSlice; rw [evPs_congr ps.toList (fun t ht => h t (by simpa [Op.operands] using ht))]
  | load t x => show opLoad t x env call tm = opLoad t x env call tm2; unfold opLoad; rw [one x (by simp [Op.operands])]
  | store t x y => show opStore t x y env call tm = opStore t x y env call tm2; unfold opStore; rw [one x (by simp [Op.operands]), one y (by simp [Op.operands])]
  | nilCheck x => show opNil x env call tm = opNil x env call tm2; unfold opNil; rw [one x (by simp [Op.operands])]
  | binOp op t x y yt => show opBin op t x y env call tm = opBin op t x y env call tm2; unfold opBin; rw [one x (by simp [Op.operands]), one y (by simp [Op.operands])]
  | unOp op t x => show opUn op x env call tm = opUn op x env call tm2; unfold opUn; rw [one x (by simp [Op.operands])]
  | convert s d x => show opConv s d x env call tm = opConv s d x env call tm2; unfold opConv; rw [one x (by simp [Op.operands])]
  | makeFunc fn f c => show opFunc fn f c env call tm = opFunc fn f c env call tm2; unfold opFunc; rw [evs_congr f.toList (fun t ht => h t (by simp only [Op.operands, Array.toList_append, List.mem_append]; exact .inl ht)), evs_congr c.toList (fun t ht => h t (by simp only [Op.operands, Array.toList_append, List.mem_append]; exact .inr ht))]
  | range t x => show opRange t x env call tm = opRange t x env call tm2; unfold opRange; rw [one x (by simp [Op.operands])]
  | next x b => show opNext x b env call tm = opNext x b env call tm2; unfold opNext; rw [one x (by simp [Op.operands])]
  | makeSlice t l c => show opMake t l c env call tm = opMake t l c env call tm2; unfold opMake; rw [one l (by simp [Op.operands]), one c (by simp [Op.operands])]
  | slice t x lo hi mx =>
    show opSlice t x lo hi mx env call tm = opSlice t x lo hi mx env call tm2
    unfold opSlice
    rw [one x (by simp [Op.operands]), evO_congr lo (fun t ht => h t (by simp only [Op.operands, Array.toList_append, List.mem_append, Option.toList_toArray]; exact .inl (.inl (.inr ht)))),
      evO_congr hi (fun t ht => h t (by simp only [Op.operands, Array.toList_append, List.mem_append, Option.toList_toArray]; exact .inl (.inr ht))), evO_congr mx (fun t ht => h t (by simp only [Op.operands, Array.toList_append, List.mem_append, Option.toList_toArray]; exact .inr ht))]
  | fieldAddr t x i => show opFieldAddr t x i env call tm = opFieldAddr t x i env call tm2; unfold opFieldAddr; rw [one x (by simp [Op.operands])]
  | field t x i => show opField t x i env call tm = opField t x i env call tm2; unfold opField; rw [one x (by simp [Op.operands])]
  | indexAddr t x i => show opIndexAddr t x i env call tm = opIndexAddr t x i env call tm2; unfold opIndexAddr; rw [one x (by simp [Op.operands]), one i (by simp [Op.operands])]
  | index t x i => show opIndex t x i env call tm = opIndex t x i env call tm2; unfold opIndex; rw [one x (by simp [Op.operands]), one i (by simp [Op.operands])]
  | extract t i => show opExtract t i env call tm = opExtract t i env call tm2; unfold opExtract; rw [one t (by simp [Op.operands])]
  | call c =>
    show opCall c env call tm = opCall c env call tm2
    unfold opCall
    have ha : evs c.args.toList tm = evs c.args.toList tm2 := evs_congr _ fun t ht => h t (by simp only [Op.operands, Call.operands, Array.toList_append, List.mem_append]; exact .inr ht)
    rw [ha]
    cases hcal : c.callee with
    | value f =>
      have hf : ev f tm = ev f tm2 := one f (by simp [Op.operands, Call.operands, hcal])
      show M.withO _ (fun args => M.withO (ev f tm) (callV call args)) = M.withO _ (fun args => M.withO (ev f tm2) (callV call args))
      rw [hf]
    | invoke r m => rfl
    | builtin b => rfl
  | _ => rfl

/-- What an operation answers, its guard asked. -/
noncomputable def stepV (ops : List Oper) (o : Oper) (env : Env) (call : CallH) (tm : T Value) : M Value := match wantedG ops tm o.guard with
  | true => execOp o.op env call tm
  | false => M.pure undef'

theorem stepOp_eq (ops : List Oper) (o : Oper) (tm : T Value) : stepOp ops o env call tm = M.bind (stepV ops o env call tm) fun v => M.pure (putT o.dst v tm) := by
  unfold stepOp stepV
  cases wantedG ops tm o.guard <;> rfl

theorem mem_looks {ops : List Oper} {o : Oper} {t : Tmp} : (t ∈ tmpsOf o.op.operands.toList → t ∈ looks ops o) ∧ (∀ j w, o.guard = some (j, w) → slotOf (nthL ops j) = some t → t ∈ looks ops o) := by
  unfold looks
  cases o.guard with
  | none => exact ⟨id, fun j w h => by cases h⟩
  | some g =>
    obtain ⟨j, w⟩ := g
    simp only [appL_eq, List.mem_append]
    refine ⟨.inr, fun j' w' h hs => ?_⟩
    injection h with h; injection h with h1 h2; subst h1
    rw [hs]; exact .inl (by simp [optL])

theorem stepV_congr {tm tm2 : T Value} (ops : List Oper) (o : Oper) (h : ∀ t, t ∈ looks ops o → tm.get t = tm2.get t) : stepV ops o env call tm = stepV ops o env call tm2 := by
  unfold stepV
  have h1 : wantedG ops tm o.guard = wantedG ops tm2 o.guard := by
    unfold wantedG
    cases hg : o.guard with
    | none => rfl
    | some g =>
      obtain ⟨j, w⟩ := g
      simp only
      unfold readT
      cases hs : slotOf (nthL ops j) with
      | none => rfl
      | some t => simp only; rw [h t (mem_looks.2 j w hg hs)]
  rw [h1, execOp_congr o.op fun t ht => h t (mem_looks.1 (mem_tmpsOf.2 ht))]

theorem good_stepV (hc : GoodCall call) (ops : List Oper) (o : Oper) (tm : T Value) : Good (stepV ops o env call tm) := by
  unfold stepV; split
  · exact good_execOp _ _ hc _
  · exact good_pure _

/-! ### Quiet operations, and those that make a block -/

def Quiet {α : Type} (b : Option Nat) (m : M α) : Prop := ∀ s s2, (∀ x, b = some x → s.h.get x = s2.h.get x) → ∃ r : Option α, m s = r.map (fun v => (v, s)) ∧ m s2 = r.map (fun v => (v, s2))

theorem quiet_fail {α : Type} (b : Option Nat) : Quiet b (M.fail : M α) := fun _ _ _ => ⟨none, rfl, rfl⟩
theorem quiet_pure {α : Type} (b : Option Nat) (v : α) : Quiet b (M.pure v) := fun _ _ _ => ⟨some v, rfl, rfl⟩
theorem quiet_ofO {α : Type} (b : Option Nat) (o : Option α) : Quiet b (M.ofO o) := by
  cases o with
  | none => exact quiet_fail b
  | some v => exact quiet_pure b v
theorem quiet_withO {α β : Type} {b : Option Nat} {o : Option α} {k : α → M β} (h : ∀ a, o = some a → Quiet b (k a)) : Quiet b (M.withO o k) := by
  cases o with
  | none => exact quiet_fail b
  | some a => exact h a rfl
theorem quiet_force {α : Type} {b : Option Nat} {n : Nat} {k : Nat → M α} (h : ∀ n, Quiet b (k n)) : Quiet b (force n k) := by rw [force_eq]; exact h n
theorem quiet_bind {α β : Type} {b : Option Nat} {m : M α} {k : α → M β} (h : Quiet b m) (h' : ∀ a, Quiet b (k a)) : Quiet b (M.bind m k) := fun s s2 hb => by
  obtain ⟨r, h1, h2⟩ := h s s2 hb
  cases r with
  | none => exact ⟨none, by unfold M.bind; rw [h1]; rfl, by unfold M.bind; rw [h2]; rfl⟩
  | some a =>
    obtain ⟨r', h3, h4⟩ := h' a s s2 hb
    exact ⟨r', bind_of h1 h3, bind_of h2 h4⟩
theorem quiet_getObj (b : Nat) : Quiet (some b) (getObj b) := fun s s2 hb => by
  have := hb b rfl
  refine ⟨s.h.get b, ?_, ?_⟩
  · unfold getObj; cases s.h.get b <;> rfl
  · unfold getObj; rw [this]; cases s2.h.get b <;> rfl

theorem quiet_loadN (b off n : Nat) : Quiet (some b) (loadN ⟨b, off, none⟩ n) := by
  unfold loadN
  refine quiet_bind (quiet_getObj b) fun o => ?_
  unfold loadB
  split
  · split
    · exact quiet_ofO _ _
    · exact quiet_fail _
  · exact quiet_fail _

theorem quiet_partV (b : Option Nat) (te : TI) (off : Nat) (cs : List Value) : Quiet b (partV te off cs) := by
  unfold partV; split
  · exact quiet_pure _ _
  · exact quiet_ofO _ _
theorem quiet_ptrK {b : Option Nat} {k : Addr → M Value} {v : Value} (h : ∀ a, v = .pointer (some a) → Quiet b (k a)) : Quiet b (ptrK k v) := by
  unfold ptrK; split
  · exact h _ rfl
  · exact quiet_fail _
theorem quiet_sliceRes (b : Option Nat) (es : Nat) (a : Addr) (r : Option (Nat × Nat × Nat)) : Quiet b (sliceRes es a r) := by
  unfold sliceRes; split
  · exact quiet_fail _
  · exact quiet_force fun _ => quiet_force fun _ => quiet_force fun _ => quiet_pure _ _
theorem quiet_aggOf (b : Option Nat) (n : Nat) (o : Option (T Value)) : Quiet b (aggOf n o) := by
  unfold aggOf; split
  · exact quiet_fail _
  · split
    · exact quiet_fail _
    · exact quiet_pure _ _
theorem quiet_idxAddr (b : Option Nat) (es n : Nat) (i : Value) (a : Addr) : Quiet b (idxAddr es n i a) := by
  unfold idxAddr; split
  · split
    · exact quiet_force fun _ => quiet_pure _ _
    · exact quiet_fail _
  · exact quiet_fail _
theorem quiet_fieldOf (b : Option Nat) (t : TypeId) (i : Nat) {k : Field → TI → M Value} (hk : ∀ f ti, Quiet b (k f ti)) : Quiet b (fieldOf env t i k) := by
  unfold fieldOf
  refine quiet_withO fun ti _ => ?_
  split
  · unfold fldK; split
    · exact quiet_fail _
    · exact quiet_withO fun _ _ => hk _ _
  · exact quiet_fail _

def isQ (c : Cls) : Bool := match c with
  | .pure | .load => true
  | _ => false

theorem quiet_exec (o : Op) (tm : T Value) (hc : isQ (cls o env) = true) : Quiet (readsAt o tm) (execOp o env call tm) := by
  cases o with
  | move x => exact quiet_ofO _ _
  | assign x => exact quiet_ofO _ _
  | pick c x y =>
    show Quiet _ (opPick c x y env call tm)
    unfold opPick; split
    · exact quiet_ofO _ _
    · exact quiet_ofO _ _
    · exact quiet_fail _
  | build t ps =>
    refine quiet_withO fun ti _ => quiet_withO fun ps _ => ?_
    unfold buildK; split
    · split
      · exact quiet_aggOf _ _ _
      · exact quiet_fail _
    · exact quiet_withO fun _ _ => quiet_aggOf _ _ _
    · exact quiet_fail _
  | load t x =>
    refine quiet_withO fun ti _ => quiet_withO fun v hv => quiet_ptrK fun a ha => ?_
    subst ha
    have hr : readsAt (.load t x) tm = some a.block := by
      show readsV (ev x tm) = _
      rw [hv]; rfl
    rw [hr]
    obtain ⟨b, off, o⟩ := a
    cases o with
    | some _ =>
      unfold loadV loadN
      split <;> exact quiet_bind (quiet_fail _) fun l => by first | exact quiet_pure _ _ | (unfold one; split <;> first | exact quiet_pure _ _ | exact quiet_fail _)
    | none =>
      unfold loadV
      split
      · exact quiet_bind (quiet_loadN _ _ _) fun _ => quiet_pure _ _
      · refine quiet_bind (quiet_loadN _ _ _) fun l => ?_
        unfold one; split
        · exact quiet_pure _ _
        · exact quiet_fail _
  | nilCheck x =>
    refine quiet_withO fun v _ => ?_
    unfold nilK; split
    · exact quiet_pure _ _
    · exact quiet_pure _ _
    · exact quiet_pure _ _
    · exact quiet_fail _
  | binOp op t x y yt => exact quiet_withO fun _ _ => quiet_withO fun _ _ => quiet_withO fun _ _ => quiet_ofO _ _
  | unOp op t x => exact quiet_withO fun _ _ => quiet_ofO _ _
  | convert s d x =>
    refine quiet_withO fun _ _ => quiet_withO fun _ _ => quiet_withO fun v _ => ?_
    unfold convV; split
    · exact quiet_ofO _ _
    · exact quiet_pure _ _
    · exact quiet_fail _
  | makeFunc fn f c =>
    show Quiet _ (opFunc fn f c env call tm)
    unfold opFunc; split
    · exact quiet_withO fun _ _ => quiet_withO fun _ _ => quiet_pure _ _
    · exact quiet_fail _
  | slice t x lo hi mx =>
    refine quiet_withO fun ti _ => quiet_withO fun v hv => quiet_withO fun lo _ => quiet_withO fun hi _ => quiet_withO fun mx _ => ?_
    unfold sliceV; split
    · exact quiet_withO fun _ _ => quiet_sliceRes _ _ _ _
    · rename_i e a len cap hd
      refine quiet_withO fun te _ => ?_
      have hr' : ∀ l h m, readsAt (.slice t x l h m) tm = some a.block := fun _ _ _ => by
        show readsS (ev x tm) = _
        rw [hv]; rfl
      rw [hr']
      refine quiet_bind (quiet_getObj _) fun o => ?_
      unfold sliceS; split
      · split
        · exact quiet_sliceRes _ _ _ _
        · split
          · exact quiet_sliceRes _ _ _ _
          · exact quiet_fail _
      · exact quiet_fail _
    · refine quiet_withO fun _ _ => ?_
      unfold sliceNil; split
      · exact quiet_fail _
      · exact quiet_force fun _ => quiet_force fun _ => quiet_pure _ _
    · exact quiet_fail _
  | fieldAddr t x i =>
    refine quiet_fieldOf _ _ _ fun f ti => ?_
    split
    · exact quiet_fail _
    · exact quiet_withO fun _ _ => quiet_ptrK fun _ _ => quiet_pure _ _
  | field t x i =>
    refine quiet_fieldOf _ _ _ fun f ti => ?_
    split
    · exact quiet_partV _ _ _ _
    · exact quiet_fail _
  | indexAddr t x i =>
    refine quiet_withO fun ti _ => quiet_withO fun x _ => quiet_withO fun i _ => ?_
    unfold indexAddrV; split
    · exact quiet_withO fun _ _ => quiet_idxAddr _ _ _ _ _
    · exact quiet_withO fun _ _ => quiet_idxAddr _ _ _ _ _
    · exact quiet_fail _
  | index t x i =>
    refine quiet_withO fun ti _ => quiet_withO fun x _ => quiet_withO fun i _ => ?_
    unfold indexV; split
    · split
      · exact quiet_withO fun _ _ => quiet_partV _ _ _ _
      · exact quiet_fail _
    · split
      · exact quiet_pure _ _
      · exact quiet_fail _
    · exact quiet_fail _
  | extract t i =>
    show Quiet _ (opExtract t i env call tm)
    unfold opExtract; split
    · exact quiet_ofO _ _
    · exact quiet_fail _
  | call c =>
    unfold cls at hc
    simp only at hc
    cases hcal : c.callee with
    | builtin b =>
      refine quiet_withO fun args _ => ?_
      rw [hcal] at hc ⊢
      show Quiet _ (builtinV b env c.argTypes.toList args)
      unfold builtinV
      cases b <;> simp only [clsC, isQ, Bool.false_eq_true] at hc
      case len =>
        simp only
        split
        · unfold bLen
          refine quiet_withO fun ti _ => ?_
          split
          · exact quiet_ofO _ _
          · exact quiet_fail _
        · exact quiet_fail _
      case min => simp only; unfold bMin; split; exact quiet_fail _; exact quiet_ofO _ _
      case max => simp only; unfold bMax; split; exact quiet_fail _; exact quiet_ofO _ _
    | value f => rw [hcal] at hc; cases hc
    | invoke r m => rw [hcal] at hc; cases hc
  | _ => first | exact quiet_fail _ | cases hc

/-- A step that makes one block. -/
def Allocs (m : M Value) : Prop := (∀ s, m s = none) ∨ ∃ (ob : AObj) (f : Nat → Value), ∀ s, m s = some (f s.c, { h := s.h.set s.c ob, c := s.c + 1, log := s.log })

theorem allocs_fail : Allocs (M.fail : M Value) := .inl fun _ => rfl
theorem allocs_withO {α : Type} {o : Option α} {k : α → M Value} (h : ∀ a, Allocs (k a)) : Allocs (M.withO o k) := by
  cases o with
  | none => exact allocs_fail
  | some a => exact h a
theorem allocs_new (f : Nat → Value) (o : AObj) : Allocs (mapM f (newObj o)) := .inr ⟨o, f, fun s => by
  unfold mapM
  exact bind_of (newObj_eq o s) rfl⟩

theorem allocs_exec (o : Op) (tm : T Value) (hc : cls o env = .alloc) : Allocs (execOp o env call tm) := by
  cases o with
  | alloc t => exact allocs_withO fun _ => allocs_new _ _
  | box t x =>
    refine allocs_withO fun v => ?_
    unfold boxV; split
    · exact allocs_fail
    · exact allocs_new _ _
  | buildSlice t n ps =>
    refine allocs_withO fun ti => ?_
    split
    · refine allocs_withO fun te => allocs_withO fun ps => ?_
      split
      · unfold sliceOfCells; split
        · exact allocs_fail
        · exact allocs_new _ _
      · exact allocs_fail
    · exact allocs_fail
  | makeSlice t l c =>
    refine allocs_withO fun ti => ?_
    split
    · refine allocs_withO fun te => allocs_withO fun l => allocs_withO fun c => ?_
      unfold makeK; split
      · split
        · split
          · rw [force_eq, force_eq]; exact allocs_new _ _
          · exact allocs_fail
        · exact allocs_fail
      · exact allocs_fail
    · exact allocs_fail
  | call c =>
    exfalso
    unfold cls at hc
    simp only at hc
    cases hcal : c.callee with
    | builtin b => rw [hcal] at hc; cases b <;> cases hc
    | value f => rw [hcal] at hc; cases hc
    | invoke r m => rw [hcal] at hc; cases hc
  | convert s d x =>
    exfalso
    unfold cls clsConv at hc
    simp only at hc
    split at hc
    · split at hc <;> cases hc
    · cases hc
  | _ => cases hc
end
end Go.Ax
