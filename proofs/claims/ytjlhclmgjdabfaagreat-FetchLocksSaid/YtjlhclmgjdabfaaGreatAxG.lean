/- The abstract executor: what it did not write has not turned, and it does the same where there is more on the heap.
Conditions: none. -/
import Derived.Test.YtjlhclmgjdabfaaGreatAxC
namespace Go.Ax
set_option linter.unusedVariables false
set_option linter.unusedSimpArgs false
set_option linter.unusedSectionVars false

/-- t has what s has, and f besides. -/
structure Ext (f : Nat → Option AObj) (s t : HS) : Prop where
  c : t.c = s.c
  h : ∀ b, t.h.get b = match f b with
    | some o => some o
    | none => s.h.get b
  dom : ∀ b o, f b = some o → s.h.get b = none

def Free (f : Nat → Option AObj) (lo hi : Nat) : Prop := ∀ b, lo ≤ b → b < hi → f b = none

theorem Free.mono {f : Nat → Option AObj} {lo hi lo' hi' : Nat} (h : Free f lo hi) (h1 : lo ≤ lo') (h2 : hi' ≤ hi) : Free f lo' hi' :=
  fun b hb hb' => h b (by omega) (by omega)

theorem Ext.get {f : Nat → Option AObj} {s t : HS} (e : Ext f s t) {b : Nat} {o : AObj} (h : s.h.get b = some o) : t.h.get b = some o := by
  rw [e.h]
  cases hf : f b with
  | none => exact h
  | some o' => rw [e.dom b o' hf] at h; cases h

structure GoodAt {α : Type} (m : M α) (s : HS) (v : α) (s' : HS) : Prop where
  mono : s.c ≤ s'.c
  seg : ∃ seg, s'.log = seg ++ s.log ∧ (∀ b, b ∉ seg → (b < s.c ∨ s'.c ≤ b) → s'.h.get b = s.h.get b) ∧ (∀ b, b ∈ seg → s.h.get b ≠ none ∨ (s.c ≤ b ∧ b < s'.c)) ∧
    ∀ f t, Ext f s t → Free f s.c s'.c → ∃ t', m t = some (v, t') ∧ Ext f s' t' ∧ t'.log = seg ++ t.log

/-- A step that respects the frame. -/
def Good {α : Type} (m : M α) : Prop := ∀ s v s', m s = some (v, s') → GoodAt m s v s'

section
variable {α β : Type}

theorem good_fail : Good (M.fail : M α) := fun s v s' h => by cases h
theorem good_pure (a : α) : Good (M.pure a) := fun s v s' h => by
  injection h with h; injection h with h1 h2; subst h1; subst h2
  exact ⟨Nat.le_refl _, [], rfl, fun _ _ _ => rfl, (fun _ h => by cases h), fun f t e _ => ⟨t, rfl, e, rfl⟩⟩

theorem bind_some {m : M α} {k : α → M β} {s s' : HS} {v : β} (h : M.bind m k s = some (v, s')) : ∃ a s1, m s = some (a, s1) ∧ k a s1 = some (v, s') := by
  unfold M.bind at h
  cases hm : m s with
  | none => rw [hm] at h; cases h
  | some p => obtain ⟨a, s1⟩ := p; rw [hm] at h; exact ⟨a, s1, rfl, h⟩
theorem bind_of {m : M α} {k : α → M β} {s s1 : HS} {a : α} {r : Option (β × HS)} (h : m s = some (a, s1)) (h' : k a s1 = r) : M.bind m k s = r := by
  unfold M.bind; rw [h]; exact h'

theorem good_bind {m : M α} {k : α → M β} (hm : Good m) (hk : ∀ a, Good (k a)) : Good (M.bind m k) := fun s v s' h => by
  obtain ⟨a, s1, h1, h2⟩ := bind_some h
  obtain ⟨g1, seg1, l1, u1, d1, x1⟩ := hm _ _ _ h1
  obtain ⟨g2, seg2, l2, u2, d2, x2⟩ := hk a _ _ _ h2
  refine ⟨Nat.le_trans g1 g2, seg2 ++ seg1, by rw [l2, l1, List.append_assoc], fun b hb hc => ?_, fun b hb => ?_, fun f t e hf => ?_⟩
  · rw [List.mem_append] at hb
    rw [u2 b (fun h => hb (.inl h)) (by omega), u1 b (fun h => hb (.inr h)) (by omega)]
  · rw [List.mem_append] at hb
    have k1 : ∀ b, b ∈ seg1 → s.h.get b ≠ none ∨ (s.c ≤ b ∧ b < s'.c) := fun b h => (d1 b h).imp id fun h => by omega
    rcases hb with hb | hb
    · rcases d2 b hb with h | h
      · by_cases hs : b ∈ seg1
        · exact k1 b hs
        · by_cases hr : s.c ≤ b ∧ b < s1.c
          · exact .inr (by omega)
          · exact .inl (by rw [← u1 b hs (by omega)]; exact h)
      · exact .inr (by omega)
    · exact k1 b hb
  · obtain ⟨t1, m1, e1, lt1⟩ := x1 f t e (hf.mono (Nat.le_refl _) g2)
    obtain ⟨t2, m2, e2, lt2⟩ := x2 f t1 e1 (hf.mono g1 (Nat.le_refl _))
    exact ⟨t2, bind_of m1 m2, e2, by rw [lt2, lt1, List.append_assoc]⟩

theorem good_withO {o : Option α} {k : α → M β} (hk : ∀ a, Good (k a)) : Good (M.withO o k) := by
  cases o with
  | none => exact good_fail
  | some a => exact hk a
theorem good_ofO (o : Option α) : Good (M.ofO o) := by
  cases o with
  | none => exact good_fail
  | some a => exact good_pure a
theorem good_mapM {f : α → β} {m : M α} (hm : Good m) : Good (mapM f m) := good_bind hm fun _ => good_pure _
theorem good_force {n : Nat} {k : Nat → M α} (hk : ∀ n, Good (k n)) : Good (force n k) := by rw [force_eq]; exact hk n
theorem good_force' {n : Nat} {k : Nat → M α} (hk : Good (k n)) : Good (force n k) := by rw [force_eq]; exact hk

theorem newObj_eq (o : AObj) (s : HS) : newObj o s = some (s.c, { h := s.h.set s.c o, c := s.c + 1, log := s.log }) := by
  unfold newObj; rw [force_eq]

theorem good_newObj (o : AObj) : Good (newObj o) := fun s v s' h => by
  rw [newObj_eq] at h
  injection h with h; injection h with h1 h2; subst h1; subst h2
  refine ⟨Nat.le_succ _, [], rfl, fun b _ hc => ?_, (fun _ h => by cases h), fun f t e hf => ?_⟩
  · show (s.h.set s.c o).get b = _
    rw [T.get_set, if_neg (by rcases hc with h | h; omega; simp only at h; omega)]
  · refine ⟨{ h := t.h.set s.c o, c := s.c + 1, log := t.log }, by rw [newObj_eq, e.c], ⟨rfl, fun b => ?_, fun b o' hb => ?_⟩, rfl⟩
    · show (t.h.set s.c o).get b = _
      rw [T.get_set, e.h]
      by_cases hb : b = s.c
      · subst hb; rw [if_pos rfl, hf _ (Nat.le_refl _) (Nat.lt_succ_self _)]; show _ = (s.h.set s.c o).get s.c; rw [T.get_set_self]
      · rw [if_neg hb]; show _ = (match f b with | some o => some o | none => (s.h.set s.c o).get b); rw [T.get_set_ne _ _ hb]
    · show (s.h.set s.c o).get b = none
      have hne : b ≠ s.c := fun e' => by subst e'; rw [hf _ (Nat.le_refl _) (Nat.lt_succ_self _)] at hb; cases hb
      rw [T.get_set_ne _ _ hne]; exact e.dom b o' hb

theorem good_getObj (b : Nat) : Good (getObj b) := fun s v s' h => by
  unfold getObj at h
  cases hg : s.h.get b with
  | none => rw [hg] at h; cases h
  | some o =>
    rw [hg] at h
    injection h with h; injection h with h1 h2; subst h1; subst h2
    exact ⟨Nat.le_refl _, [], rfl, fun _ _ _ => rfl, (fun _ h => by cases h), fun f t e _ => ⟨t, by unfold getObj; rw [e.get hg]; rfl, e, rfl⟩⟩

theorem good_setObj (b : Nat) (o : AObj) : Good (setObj b o) := fun s v s' h => by
  unfold setObj at h
  cases hg : s.h.get b with
  | none => rw [hg] at h; cases h
  | some o0 =>
    rw [hg] at h
    injection h with h; injection h with h1 h2; subst h2
    have hfn : ∀ f t, Ext f s t → f b = none := fun f t e => by
      cases hf : f b with
      | none => rfl
      | some o' => rw [e.dom b o' hf] at hg; cases hg
    refine ⟨Nat.le_refl _, [b], rfl, fun b' hb _ => ?_, (fun b' hb' => by rw [List.mem_singleton] at hb'; subst hb'; rw [hg]; exact .inl (by simp)), fun f t e _ => ?_⟩
    · show (s.h.set b o).get b' = _
      rw [T.get_set_ne _ _ (by simpa using hb)]
    · refine ⟨{ h := t.h.set b o, c := t.c, log := b :: t.log }, by unfold setObj; rw [e.get hg]; rfl, ⟨e.c, fun b' => ?_, fun b' o' hb' => ?_⟩, rfl⟩
      · show (t.h.set b o).get b' = (match f b' with | some o => some o | none => (s.h.set b o).get b')
        by_cases hb : b' = b
        · subst hb; rw [hfn f t e, T.get_set_self, T.get_set_self]
        · rw [T.get_set_ne _ _ hb, T.get_set_ne _ _ hb, e.h]
      · show (s.h.set b o).get b' = none
        have hne : b' ≠ b := fun e' => by subst e'; rw [hfn f t e] at hb'; cases hb'
        rw [T.get_set_ne _ _ hne]; exact e.dom b' o' hb'

theorem good_delObj (b : Nat) : Good (delObj b) := fun s v s' h => by
  unfold delObj at h
  cases hg : s.h.get b with
  | none => rw [hg] at h; cases h
  | some o0 =>
    rw [hg] at h
    injection h with h; injection h with h1 h2; subst h2
    have hfn : ∀ f t, Ext f s t → f b = none := fun f t e => by
      cases hf : f b with
      | none => rfl
      | some o' => rw [e.dom b o' hf] at hg; cases hg
    refine ⟨Nat.le_refl _, [b], rfl, fun b' hb _ => ?_, (fun b' hb' => by rw [List.mem_singleton] at hb'; subst hb'; rw [hg]; exact .inl (by simp)), fun f t e _ => ?_⟩
    · show (s.h.del b).get b' = _
      rw [T.get_del, if_neg (by simpa using hb)]
    · refine ⟨{ h := t.h.del b, c := t.c, log := b :: t.log }, by unfold delObj; rw [e.get hg]; rfl, ⟨e.c, fun b' => ?_, fun b' o' hb' => ?_⟩, rfl⟩
      · show (t.h.del b).get b' = (match f b' with | some o => some o | none => (s.h.del b).get b')
        rw [T.get_del, T.get_del]
        by_cases hb : b' = b
        · subst hb; rw [hfn f t e, if_pos rfl, if_pos rfl]
        · rw [if_neg hb, if_neg hb, e.h]
      · show (s.h.del b).get b' = none
        rw [T.get_del]
        split
        · rfl
        · exact e.dom b' o' hb'
end

theorem good_ret (v : Value) : Good (ret v) := good_pure v

/-! ### The operations -/

theorem good_loadN (a : Addr) (n : Nat) : Good (loadN a n) := by
  unfold loadN
  split
  · refine good_bind (good_getObj _) fun o => ?_
    unfold loadB
    split
    · split
      · exact good_ofO _
      · exact good_fail
    · exact good_fail
  · exact good_fail

theorem good_storeN (a : Addr) (l : List Value) : Good (storeN a l) := by
  unfold storeN
  split
  · split
    · refine good_bind (good_getObj _) fun o => ?_
      unfold storeB
      split
      · split
        · exact good_fail
        · split
          · exact good_setObj _ _
          · exact good_fail
      · exact good_fail
    · exact good_fail
  · exact good_fail

theorem good_newCells (es : Nat) (tight : Bool) (n : Nat) (l : List Value) : Good (newCells es tight n l) := good_newObj _

theorem good_ptrK {α : Type} {k : Addr → M α} (hk : ∀ a, Good (k a)) (v : Value) : Good (ptrK k v) := by
  unfold ptrK; split
  · exact hk _
  · exact good_fail

theorem good_loadV (ti : TI) (a : Addr) : Good (loadV ti a) := by
  unfold loadV; split
  · exact good_bind (good_loadN _ _) fun _ => good_ret _
  · refine good_bind (good_loadN _ _) fun l => ?_
    unfold one; split
    · exact good_ret _
    · exact good_fail

theorem good_storeV (ti : TI) (v : Value) (a : Addr) : Good (storeV ti v a) := by
  unfold storeV; split
  · exact good_bind (good_storeN _ _) fun _ => good_ret _
  · exact good_fail

theorem good_firstN (es n : Nat) (v : Value) : Good (firstN es n v) := by
  unfold firstN; split
  · split
    · exact good_pure _
    · split
      · exact good_loadN _ _
      · exact good_fail
  · exact good_pure _
  · exact good_fail

theorem good_freshSlice (es n : Nat) (l : List Value) : Good (freshSlice es n l) := good_mapM (good_newCells _ _ _ _)

theorem good_consume (b es : Nat) (o : AObj) : Good (consume b es o) := by
  unfold consume; split
  · split
    · exact good_pure _
    · split
      · exact good_fail
      · split
        · exact good_delObj _
        · exact good_fail
  · exact good_fail

theorem good_appendTo (es l cap n : Nat) (a : Addr) (new : List Value) : Good (appendTo es l cap n a new) := by
  unfold appendTo; split
  · exact good_bind (good_storeN _ _) fun _ => good_force fun _ => good_ret _
  · split
    · split
      · exact good_bind (good_getObj _) fun _ => good_bind (good_consume _ _ _) fun _ => good_freshSlice _ _ _
      · exact good_bind (good_firstN _ _ _) fun _ => good_bind (good_getObj _) fun _ => good_bind (good_consume _ _ _) fun _ => good_force fun _ => good_freshSlice _ _ _
    · exact good_fail

theorem good_appendK (es n : Nat) (new : List Value) (base : Option Addr) (l cap : Nat) : Good (appendK es n new base l cap) := by
  unfold appendK; split
  · split
    · exact good_freshSlice _ _ _
    · exact good_fail
  · exact good_appendTo _ _ _ _ _ _
theorem good_appendN (es bytes n : Nat) (new : List Value) (x : Value) : Good (appendN es bytes n new x) := by
  unfold appendN; split
  · split
    · split
      · split
        · split
          · exact good_ret _
          · exact good_appendK _ _ _ _ _ _
        · exact good_fail
      · exact good_fail
    · exact good_fail
  · exact good_fail

theorem good_partV (te : TI) (off : Nat) (cs : List Value) : Good (partV te off cs) := by
  unfold partV; split
  · exact good_ret _
  · exact good_ofO _

theorem good_sliceRes (es : Nat) (a : Addr) (r : Option (Nat × Nat × Nat)) : Good (sliceRes es a r) := by
  unfold sliceRes; split
  · exact good_fail
  · exact good_force fun _ => good_force fun _ => good_force fun _ => good_ret _
theorem good_sliceS (es : Nat) (a : Addr) (r : Option (Nat × Nat × Nat)) (o : AObj) : Good (sliceS es a r o) := by
  unfold sliceS; split
  · split
    · exact good_sliceRes _ _ _
    · split
      · exact good_sliceRes _ _ _
      · exact good_fail
  · exact good_fail
theorem good_sliceNil (r : Option (Nat × Nat × Nat)) : Good (sliceNil r) := by
  unfold sliceNil; split
  · exact good_fail
  · exact good_force fun _ => good_force fun _ => good_ret _
theorem good_idxAddr (es n : Nat) (i : Value) (a : Addr) : Good (idxAddr es n i a) := by
  unfold idxAddr; split
  · split
    · exact good_force fun _ => good_ret _
    · exact good_fail
  · exact good_fail
theorem good_aggOf (n : Nat) (o : Option (T Value)) : Good (aggOf n o) := by
  unfold aggOf; split
  · exact good_fail
  · split
    · exact good_fail
    · exact good_ret _

def GoodCall (call : CallH) : Prop := ∀ t args, Good (call t args)

theorem good_fieldOf (env : Env) (t : TypeId) (i : Nat) {k : Field → TI → M Value} (hk : ∀ f ti, Good (k f ti)) : Good (fieldOf env t i k) := by
  unfold fieldOf
  refine good_withO fun ti => ?_
  split
  · unfold fldK; split
    · exact good_fail
    · exact good_withO fun _ => hk _ _
  · exact good_fail

theorem good_builtinV (b : Builtin) (env : Env) (ts : List TypeId) (args : List Value) : Good (builtinV b env ts args) := by
  unfold builtinV
  split
  · split
    · unfold bAppend
      refine good_withO fun ti => ?_
      split
      · refine good_withO fun te => good_withO fun t1 => ?_
        split
        · exact good_fail
        · split
          · exact good_withO fun _ => good_bind (good_firstN _ _ _) fun _ => good_appendN _ _ _ _ _
          · exact good_fail
      · exact good_fail
    · exact good_fail
  · split
    · unfold bLen
      refine good_withO fun ti => ?_
      split
      · exact good_ofO _
      · exact good_fail
    · exact good_fail
  · split
    · unfold bCopy
      refine good_withO fun ti => ?_
      split
      · refine good_withO fun te => ?_
        split
        · refine good_withO fun d => good_withO fun s => good_force fun n => good_bind (good_firstN _ _ _) fun l => ?_
          unfold copyTo; split
          · split
            · exact good_ret _
            · exact good_bind (good_storeN _ _) fun _ => good_ret _
          · exact good_ret _
          · exact good_fail
        · exact good_fail
      · exact good_fail
    · exact good_fail
  · unfold bMin; split
    · exact good_fail
    · exact good_ofO _
  · unfold bMax; split
    · exact good_fail
    · exact good_ofO _
  · split
    · unfold bCap
      refine good_withO fun ti => ?_
      split
      · exact good_ret _
      · refine good_bind (good_getObj _) fun o => ?_
        unfold capK; split
        · split
          · exact good_ret _
          · exact good_fail
        · exact good_fail
      · exact good_fail
    · exact good_fail
  · split
    · unfold bClear
      refine good_withO fun ti => ?_
      split
      · refine good_withO fun te => ?_
        split
        · unfold clearV; split
          · exact good_ret _
          · split
            · exact good_ret _
            · exact good_bind (good_storeN _ _) fun _ => good_ret _
          · exact good_fail
        · exact good_fail
      · exact good_fail
    · exact good_fail
  · exact good_fail

theorem good_callV {call : CallH} (hc : GoodCall call) (args : List Value) (f : Value) : Good (callV call args f) := by
  unfold callV; split
  · exact hc _ _
  · exact hc _ _
  · exact good_fail

theorem good_newIter : Good newIter := good_bind (good_newObj _) fun _ => good_ret _
theorem good_opMap (r : Option Operand) (env : Env) (call : CallH) (tm : T Value) : Good (opMap r env call tm) := by
  unfold opMap; split
  · exact good_bind (good_newObj _) fun _ => good_ret _
  · exact good_fail
theorem good_opRange (t : TypeId) (x : Operand) (env : Env) (call : CallH) (tm : T Value) : Good (opRange t x env call tm) := by
  refine good_withO fun ti => ?_
  split
  · refine good_withO fun v => ?_
    unfold rangeV; split
    · exact good_newIter
    · refine good_bind (good_getObj _) fun o => ?_
      unfold iterOf; split
      · exact good_newIter
      · exact good_fail
    · exact good_fail
  · exact good_fail
theorem good_opNext (x : Operand) (b : Bool) (env : Env) (call : CallH) (tm : T Value) : Good (opNext x b env call tm) := by
  unfold opNext; split
  · exact good_fail
  · refine good_withO fun v => ?_
    unfold nextV; split
    · split
      · refine good_bind (good_getObj _) fun o => ?_
        unfold nextOf; split
        · exact good_ret _
        · exact good_fail
      · exact good_fail
    · exact good_fail

theorem good_execOp (o : Op) (env : Env) {call : CallH} (hc : GoodCall call) (tm : T Value) : Good (execOp o env call tm) := by
  unfold execOp
  split
  · exact good_ofO _
  · exact good_ofO _
  · unfold opPick; split
    · exact good_ofO _
    · exact good_ofO _
    · exact good_fail
  · exact good_withO fun _ => good_mapM (good_newCells _ _ _ _)
  · refine good_withO fun v => ?_
    unfold boxV; split
    · exact good_fail
    · exact good_mapM (good_newCells _ _ _ _)
  · refine good_withO fun ti => good_withO fun ps => ?_
    unfold buildK; split
    · split
      · exact good_aggOf _ _
      · exact good_fail
    · exact good_withO fun _ => good_aggOf _ _
    · exact good_fail
  · refine good_withO fun ti => ?_
    split
    · refine good_withO fun te => good_withO fun ps => ?_
      split
      · unfold sliceOfCells; split
        · exact good_fail
        · exact good_mapM (good_newObj _)
      · exact good_fail
    · exact good_fail
  · exact good_withO fun _ => good_withO fun _ => good_ptrK (good_loadV _) _
  · exact good_withO fun _ => good_withO fun _ => good_withO fun _ => good_ptrK (good_storeV _ _) _
  · refine good_withO fun v => ?_
    unfold nilK; split
    · exact good_ret _
    · exact good_ret _
    · exact good_ret _
    · exact good_fail
  · exact good_withO fun _ => good_withO fun _ => good_withO fun _ => good_ofO _
  · exact good_withO fun _ => good_ofO _
  · refine good_withO fun ts => good_withO fun td => good_withO fun v => ?_
    unfold convV; split
    · exact good_ofO _
    · exact good_ret _
    · exact good_fail
  · unfold opFunc; split
    · exact good_withO fun _ => good_withO fun _ => good_ret _
    · exact good_fail
  · refine good_withO fun ti => ?_
    split
    · refine good_withO fun te => good_withO fun l => good_withO fun c => ?_
      unfold makeK; split
      · split
        · split
          · exact good_force fun _ => good_force fun _ => good_mapM (good_newCells _ _ _ _)
          · exact good_fail
        · exact good_fail
      · exact good_fail
    · exact good_fail
  · refine good_withO fun ti => good_withO fun x => good_withO fun lo => good_withO fun hi => good_withO fun mx => ?_
    unfold sliceV; split
    · exact good_withO fun _ => good_sliceRes _ _ _
    · exact good_withO fun _ => good_bind (good_getObj _) fun _ => good_sliceS _ _ _ _
    · exact good_withO fun _ => good_sliceNil _
    · exact good_fail
  · refine good_fieldOf _ _ _ fun f ti => ?_
    split
    · exact good_fail
    · exact good_withO fun _ => good_ptrK (fun a => good_ret _) _
  · refine good_fieldOf _ _ _ fun f ti => ?_
    split
    · exact good_partV _ _ _
    · exact good_fail
  · refine good_withO fun ti => good_withO fun x => good_withO fun i => ?_
    unfold indexAddrV; split
    · exact good_withO fun _ => good_idxAddr _ _ _ _
    · exact good_withO fun _ => good_idxAddr _ _ _ _
    · exact good_fail
  · refine good_withO fun ti => good_withO fun x => good_withO fun i => ?_
    unfold indexV; split
    · split
      · exact good_withO fun _ => good_partV _ _ _
      · exact good_fail
    · split
      · exact good_ret _
      · exact good_fail
    · exact good_fail
  · unfold opExtract; split
    · exact good_ofO _
    · exact good_fail
  · refine good_withO fun args => ?_
    unfold calleeK; split
    · exact good_withO fun _ => good_callV hc _ _
    · exact good_fail
    · exact good_builtinV _ _ _ _
  · exact good_opMap _ _ _ _
  · exact good_opRange _ _ _ _ _
  · exact good_opNext _ _ _ _ _
  · exact good_fail

theorem good_stepOp (ops : List Oper) (o : Oper) (env : Env) {call : CallH} (hc : GoodCall call) (tm : T Value) : Good (stepOp ops o env call tm) := by
  unfold stepOp; split
  · exact good_bind (good_execOp _ _ hc _) fun _ => good_pure _
  · exact good_pure _

theorem execOps_nil (ops : List Oper) (env : Env) (call : CallH) (tm : T Value) : execOps ops [] env call tm = M.pure tm := rfl
theorem execOps_cons (ops : List Oper) (o : Oper) (l : List Oper) (env : Env) (call : CallH) (tm : T Value) :
    execOps ops (o :: l) env call tm = M.bind (stepOp ops o env call tm) (execOps ops l env call) := rfl

theorem good_execOps (ops l : List Oper) (env : Env) {call : CallH} (hc : GoodCall call) : ∀ tm, Good (execOps ops l env call tm) := by
  induction l with
  | nil => intro tm; exact good_pure _
  | cons o l ih => intro tm; rw [execOps_cons]; exact good_bind (good_stepOp _ _ _ hc _) ih

theorem runW_eq (i : Nat) (recs : Recs) (m : M (T Value)) (s : HS) {tm : T Value × Recs} {s' : HS} (h : runW i recs m s = some (tm, s')) :
    ∃ s1, m { h := s.h, c := s.c, log := [] } = some (tm.1, s1) ∧ tm.2 = (i, s.c, s1.log) :: recs ∧ s' = { h := s1.h, c := s1.c, log := s1.log ++ s.log } := by
  unfold runW at h
  cases hm : m { h := s.h, c := s.c, log := [] } with
  | none => rw [hm] at h; cases h
  | some p =>
    obtain ⟨t, s1⟩ := p
    rw [hm] at h
    injection h with h; injection h with h1 h2
    exact ⟨s1, by rw [← h1], by rw [← h1], by rw [← h2, appL_eq]⟩

theorem good_runW (i : Nat) (recs : Recs) {m : M (T Value)} (hm : Good m) : Good (runW i recs m) := fun s v s' h => by
  obtain ⟨s1, h1, h2, h3⟩ := runW_eq _ _ _ _ h
  obtain ⟨g1, seg, l1, u1, d1, x1⟩ := hm _ _ _ h1
  subst h3
  have l1' : s1.log = seg := by rw [l1]; exact List.append_nil _
  refine ⟨g1, seg, by show s1.log ++ s.log = _; rw [l1'], u1, d1, fun f t e hf => ?_⟩
  obtain ⟨t', m', e', lt'⟩ := x1 f { h := t.h, c := t.c, log := [] } ⟨e.c, e.h, e.dom⟩ hf
  refine ⟨{ h := t'.h, c := t'.c, log := t'.log ++ t.log }, ?_, ⟨e'.c, e'.h, e'.dom⟩, ?_⟩
  · unfold runW; rw [m']
    show some ((v.1, (i, t.c, t'.log) :: recs), _) = _
    have : t'.log = s1.log := by rw [lt', l1']; exact List.append_nil _
    rw [this, e.c, ← h2, appL_eq]
  · show t'.log ++ t.log = _
    rw [lt']; simp

theorem good_stepPE (ops : List Oper) (e : PE) (env : Env) {call : CallH} (hc : GoodCall call) (recs : Recs) (tm : T Value) : Good (stepPE ops e env call recs tm) := by
  unfold stepPE; split
  · exact good_runW _ _ (good_stepOp _ _ _ hc _)
  · exact good_runW _ _ (good_stepOp _ _ _ hc _)
  · split
    · split
      · exact good_mapM (good_stepOp _ _ _ hc _)
      · exact good_fail
    · exact good_mapM (good_stepOp _ _ _ hc _)
  · exact good_mapM (good_stepOp _ _ _ hc _)

theorem execPEs_nil (ops : List Oper) (env : Env) (call : CallH) (r : T Value × Recs) : execPEs ops [] env call r = M.pure r.1 := rfl
theorem execPEs_cons (ops : List Oper) (e : PE) (l : List PE) (env : Env) (call : CallH) (r : T Value × Recs) :
    execPEs ops (e :: l) env call r = M.bind (stepPE ops e env call r.2 r.1) (execPEs ops l env call) := rfl

theorem good_execPEs (ops : List Oper) (l : List PE) (env : Env) {call : CallH} (hc : GoodCall call) : ∀ r, Good (execPEs ops l env call r) := by
  induction l with
  | nil => intro r; exact good_pure _
  | cons e l ih => intro r; rw [execPEs_cons]; exact good_bind (good_stepPE _ _ _ hc _ _) ih

theorem iter_zero (f : T Value → M (AExit × T Value)) (tm : T Value) : iter f 0 tm = M.fail := rfl
theorem iter_succ (f : T Value → M (AExit × T Value)) (n : Nat) (tm : T Value) : iter f (n + 1) tm = M.bind (f tm) (loopK (iter f n)) := rfl

theorem good_iter {f : T Value → M (AExit × T Value)} (hf : ∀ tm, Good (f tm)) (n : Nat) : ∀ tm, Good (iter f n tm) := by
  induction n with
  | zero => intro tm; exact good_fail
  | succ n ih =>
    intro tm; rw [iter_succ]
    refine good_bind (hf tm) fun r => ?_
    unfold loopK; split
    · exact ih _
    · exact good_pure _

theorem good_callFn {call : CallH} (hc : GoodCall call) (args : List Value) (f : Value) : Good (callFn call args f) := by
  unfold callFn; split
  · exact hc _ _
  · exact good_fail

theorem good_rangeK (l : Nat) (tm : T Value) (o : AObj) : Good (rangeK l tm o) := by
  unfold rangeK; split
  · exact good_bind (good_delObj _) fun _ => good_pure _
  · exact good_fail

theorem good_execC (c : Code) (env : Env) {call : CallH} (hc : GoodCall call) (lf : Nat) : ∀ tm, Good (execC c env call lf tm) := by
  induction c with
  | skip => intro tm; exact good_pure _
  | region id ops d =>
    intro tm
    show Good (sRegion ops d env call lf tm)
    unfold sRegion; split
    · exact good_bind (good_execOps _ _ _ hc _) fun _ => good_pure _
    · refine good_bind ?_ fun _ => good_pure _
      unfold drawK; split
      · exact good_execPEs _ _ _ hc _
      · exact good_fail
  | seq a b iha ihb =>
    intro tm
    refine good_bind (iha tm) fun r => ?_
    unfold seqK; split
    · exact ihb _
    · exact good_pure _
  | cond c a b iha ihb =>
    intro tm
    show Good (condK (execC a) (execC b) (ev c tm) env call lf tm)
    generalize ev c tm = v
    cases v with
    | none => exact good_fail
    | some v => cases v with
      | bool b => cases b with
        | true => exact iha _
        | false => exact ihb _
      | _ => exact good_fail
  | block id a iha =>
    intro tm
    refine good_bind (iha tm) fun r => ?_
    unfold blockK; split
    · split
      · exact good_pure _
      · exact good_pure _
    · exact good_pure _
  | loop a iha => intro tm; exact good_iter iha lf tm
  | rangeFunc f ps a b iha ihb =>
    intro tm
    exact good_withO fun f => good_bind (good_newObj _) fun l => good_bind (good_callFn hc _ _) fun _ => good_bind (good_getObj _) fun o => good_rangeK _ _ _
  | exit id => intro tm; exact good_pure _
  | scope a iha => intro tm; exact good_fail
  | label l => intro tm; exact good_fail
  | goto l => intro tm; exact good_fail
  | ret => intro tm; exact good_pure _
  | refuse w => intro tm; exact good_fail

theorem good_resM (env : Env) (tm : T Value) (l : List ResultVar) : Good (resM env tm l) := by
  induction l with
  | nil => exact good_pure _
  | cons r l ih =>
    unfold resM; split
    · exact good_withO fun _ => good_mapM ih
    · exact good_withO fun _ => good_withO fun _ => good_bind (good_ptrK (good_loadV _) _) fun _ => good_mapM ih

theorem good_tupleOf (l : List Value) : Good (tupleOf l) := by
  unfold tupleOf; split
  · exact good_ret _
  · exact good_ret _

theorem good_roundK (l : Nat) (o : AObj) (r : AExit × T Value) : Good (roundK l o r) := by
  unfold roundK; split
  · exact good_bind (good_setObj _ _) fun _ => good_ret _
  · exact good_fail

theorem good_roundR (env : Env) (lf : Nat) {call : CallH} (hc : GoodCall call) (l : Nat) (body : Code) (tm : T Value) (o : AObj) : Good (roundR env lf call l body tm o) := by
  unfold roundR; split
  · exact good_bind (good_setObj _ _) fun _ => good_bind (good_execC _ _ hc _ _) fun r => good_roundK _ _ _
  · exact good_fail

theorem good_roundB (env : Env) (lf : Nat) {call : CallH} (hc : GoodCall call) (l : Nat) (body : Code) (q : AExit × T Value) : Good (roundB env lf call l body q) := by
  unfold roundB; split
  · exact good_bind (good_getObj _) fun o => good_roundR env lf hc _ _ _ _
  · exact good_fail

theorem good_runRound (env : Env) (lf : Nat) {call : CallH} (hc : GoodCall call) (args : List Value) (l : Nat) (o : AObj) : Good (runRound env lf call args l o) := by
  unfold runRound; split
  · exact good_withO fun tm => good_bind (good_execC _ _ hc _ _) fun q => good_roundB env lf hc _ _ _
  · exact good_fail

theorem good_callK (env : Env) (lf : Nat) {call : CallH} (hc : GoodCall call) : GoodCall (callK env lf call) := by
  intro t args
  unfold callK; split
  · refine good_withO fun fn => ?_
    unfold runFn; split
    · split
      · refine good_bind (good_execC _ _ hc _ _) fun r => ?_
        unfold bodyK; split
        · exact good_bind (good_resM _ _ _) good_tupleOf
        · exact good_bind (good_resM _ _ _) good_tupleOf
        · exact good_fail
      · exact good_fail
    · exact good_fail
  · refine good_bind (good_getObj _) fun o => ?_
    exact good_runRound env lf hc _ _ _

theorem callN_zero (env : Env) (lf : Nat) (t : Tgt) (args : List Value) : callN env lf 0 t args = M.fail := rfl
theorem callN_succ (env : Env) (lf n : Nat) : callN env lf (n + 1) = callK env lf (callN env lf n) := rfl

theorem good_callN (env : Env) (lf n : Nat) : GoodCall (callN env lf n) := by
  induction n with
  | zero => exact fun t args => good_fail
  | succ n ih => rw [callN_succ]; exact good_callK env lf ih

end Go.Ax
