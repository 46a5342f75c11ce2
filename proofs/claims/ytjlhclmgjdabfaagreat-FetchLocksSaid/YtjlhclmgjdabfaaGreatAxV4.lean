/- Shallow code out of the executor's: what the generator makes of any operation stands for it.
Conditions: none. -/
import Derived.Test.YtjlhclmgjdabfaaGreatAxVb
namespace Go.Ax
set_option linter.unusedSectionVars false
set_option linter.unusedVariables false
set_option linter.unusedSimpArgs false

section
variable {R : Type} {env : Env} {call : CallH}

theorem ref_gStore {ti : TI} {v : Value} {p : Option Addr} {k : Value → Tr R} {K : Value → M R} (h : ∀ v, Ref (k v) (K v)) : Ref (gStore ti v p k) (M.bind (ptrK (storeV ti v) (.pointer p)) K) := by
  unfold gStore
  split
  · rename_i hs
    refine ref_node (fun _ => undef') h fun s a s' e => ?_
    obtain ⟨ad, rfl, e'⟩ := withO_some (show M.withO p _ s = _ from e)
    show storeV ti v ad s = _
    unfold storeV
    rw [hs]
    exact bind_of e' rfl
  · exact ref_fail

theorem ref_gBox {v : Value} {k : Value → Tr R} {K : Value → M R} (h : ∀ v, Ref (k v) (K v)) : Ref (gBox v k) (M.bind (boxV v) K) := by
  have key : Ref (.op (newM (cellsOf v)) fun b => k (pAddr b)) (M.bind (mapM pAddr (newCells 1 true (lenL (cellsOf v)) (cellsOf v))) K) :=
    ref_node pAddr h fun s a s' e => bind_of (show newCells 1 true (lenL (cellsOf v)) (cellsOf v) s = some (a, s') from e) rfl
  cases v with
  | tuple vs => exact ref_fail
  | _ => exact key

theorem gSliceOf_some {d : TypeDesc} {k : TI → Tr R} {m : TI → M Value} {K : Value → M R} (h : ∀ e te, d = .slice e → env.ty.get e = some te → Ref (k te) (M.bind (m te) K)) :
    Ref (gSliceOf d env k) (M.bind (match d with | .slice e => M.withO (env.ty.get e) m | _ => M.fail) K) := by
  unfold gSliceOf
  split
  · rename_i e
    exact ref_wO fun te ht => h e te rfl ht
  · exact ref_fail

theorem ref_alloc {t : TypeId} {tm : T Value} {k : Value → Tr R} {K : Value → M R} (h : ∀ v, Ref (k v) (K v)) :
    Ref (wO (env.ty.get t) fun ti => .op (newM ti.zero) fun b => k (pAddr b)) (M.bind (execOp (.alloc t) env call tm) K) := by
  refine ref_wO fun ti ht => ?_
  exact ref_node pAddr h fun s a s' e => bind_of (show newCells 1 true (lenL ti.zero) ti.zero s = some (a, s') from e) rfl

theorem ref_buildSlice {te : TI} {n : Nat} {ps : List (Nat × Value)} {k : Value → Tr R} {K : Value → M R} (h : ∀ v, Ref (k v) (K v)) :
    Ref (gBuildSlice te n ps k) (M.bind (match Nat.ble (Nat.mul n te.size) 10000 with
    | true => sliceOfCells te.size n (Nat.mul n te.size) (fillL (elemPl te.size) (Nat.mul n te.size) ps (T.ofList (repL te.zero n)))
    | false => M.fail) K) := by
  refine ref_node (pSlice n n) h fun s a s' e => ?_
  have e' : (match Nat.ble (Nat.mul n te.size) 10000 with
    | true => bsK te.size (Nat.mul n te.size) (fillL (elemPl te.size) (Nat.mul n te.size) ps (T.ofList (repL te.zero n)))
    | false => M.fail) s = some (a, s') := e
  cases hb : Nat.ble (Nat.mul n te.size) 10000 with
  | false => rw [hb] at e'; cases e'
  | true =>
    rw [hb] at e'
    show sliceOfCells te.size n (Nat.mul n te.size) (fillL (elemPl te.size) (Nat.mul n te.size) ps (T.ofList (repL te.zero n))) s = _
    revert e'
    show bsK te.size (Nat.mul n te.size) (fillL (elemPl te.size) (Nat.mul n te.size) ps (T.ofList (repL te.zero n))) s = _ → _
    cases fillL (elemPl te.size) (Nat.mul n te.size) ps (T.ofList (repL te.zero n)) with
    | none => intro e'; cases e'
    | some cells =>
      intro e'
      show M.bind (newObj (.cells (Nat.mul n te.size) te.size true false cells)) (fun b => M.pure (pSlice n n b)) s = _
      exact bind_of (show newObj (.cells (Nat.mul n te.size) te.size true false cells) s = some (a, s') from e') rfl

theorem makeK_same {a b : TI} {l c : Value} (h1 : a.size = b.size) (h2 : a.bytes = b.bytes) (h3 : a.zero = b.zero) : makeK a l c = makeK b l c := by
  unfold makeK
  rw [h1, h2, h3]

theorem ref_gSlice {d : TypeDesc} {ti : TI} (hd : ti.desc = d) {x : Value} {lo hi mx : Option Value} {k : Value → Tr R} {K : Value → M R} (h : ∀ v, Ref (k v) (K v)) :
    Ref (gSlice env d (some x) lo hi mx k) (M.bind (sliceV env ti x lo hi mx) K) := by
  unfold gSlice sliceV
  rw [hd]
  split
  · rename_i n e
    cases x with
    | pointer p =>
      cases p with
      | none =>
        cases env.ty.get e with
        | none => exact ref_fail
        | some te => intro s r h'; cases h'
      | some a =>
        refine ref_wO fun te ht => ?_
        exact ref_node slV h fun s v s' e => bind_svK e
    | _ => cases env.ty.get e <;> exact ref_fail
  · rename_i e
    cases x with
    | slice a n c =>
      cases a with
      | none =>
        refine ref_wO fun te ht => ?_
        exact ref_node slV h fun s v s' e => bind_svK e
      | some a =>
        refine ref_wO fun te ht => ?_
        exact ref_node slV h fun s v s' e => bind_svK e
    | _ => cases env.ty.get e <;> exact ref_fail
  · exact ref_fail

theorem adK_some {v : Value} {a : Addr} {s s' : HS} (h : adK v s = some (a, s')) : v = adrV a ∧ s' = s := by
  unfold adK at h
  revert h
  split
  · intro h; obtain ⟨h1, h2⟩ := pure_some h; exact ⟨by rw [h1]; rfl, h2⟩
  · intro h; cases h
theorem bind_adK {m : M Value} {x : Addr} {s s' : HS} (h : M.bind m adK s = some (x, s')) : m s = some (adrV x, s') := by
  obtain ⟨v, s1, h1, h2⟩ := bind_some h
  obtain ⟨h3, h4⟩ := adK_some h2
  rw [h1, h3, h4]

theorem ref_gIndexAddr {d : TypeDesc} {x i : Value} {k : Value → Tr R} {K : Value → M R} (h : ∀ v, Ref (k v) (K v)) :
    Ref (gIndexAddr env d (some x) (some i) k) (M.bind (indexAddrV env d x i) K) := by
  unfold gIndexAddr indexAddrV
  split
  · rename_i n e
    cases x with
    | pointer p =>
      cases p with
      | none =>
        cases env.ty.get e with
        | none => exact ref_fail
        | some te =>
          cases i with
          | int ik i => intro s r h'; cases h'
          | _ => exact ref_fail
      | some a =>
        refine ref_wO fun te ht => ?_
        cases i with
        | int ik i => exact ref_node adrV h fun s v s' e => bind_adK e
        | _ => exact ref_fail
    | _ => cases env.ty.get e <;> exact ref_fail
  · rename_i e
    cases x with
    | slice a n c =>
      cases a with
      | none =>
        cases env.ty.get e with
        | none => exact ref_fail
        | some te =>
          cases i with
          | int ik i => intro s r h'; cases h'
          | _ => exact ref_fail
      | some a =>
        refine ref_wO fun te ht => ?_
        cases i with
        | int ik i => exact ref_node adrV h fun s v s' e => bind_adK e
        | _ => exact ref_fail
    | _ => cases env.ty.get e <;> exact ref_fail
  · exact ref_fail

theorem take_one {l : List Value} {off : Nat} {v : Value} (h : takeL 1 (dropL off l) = [v]) : nthL l off = some v := by
  rw [takeL_eq, dropL_eq] at h
  rw [nthL_eq]
  cases e : l[off]? with
  | none =>
    rw [List.drop_eq_nil_of_le (by rw [List.getElem?_eq_none_iff] at e; exact e)] at h
    cases h
  | some u =>
    have hlt := (List.getElem?_eq_some_iff.1 e).1
    rw [List.drop_eq_getElem_cons hlt] at h
    injection h with h _
    rw [← (List.getElem?_eq_some_iff.1 e).2, h]

theorem partV_run {te : TI} {off : Nat} {l : List Value} {a : (shTI te).Sem} {s s' : HS} (hs : sizeOK te (shTI te) = true) (e2 : M.ofO (unCells (shTI te) (takeL (shTI te).size (dropL off l))) s = some (a, s')) :
    partV te off l s = some ((shTI te).mk a, s') := by
  obtain ⟨e3, e4⟩ := ofO_some e2
  subst e4
  unfold partV
  generalize shTI te = sh at hs a e3
  cases sh with
  | one x =>
    rw [sizeOK_one hs]
    have e5 := unCells_one e3
    rw [take_one e5]; rfl
  | agg ls =>
    obtain ⟨h1, h2⟩ := sizeOK_agg hs
    rw [h1]
    have e5 := S1.unL_mk (show S1.unL ls _ = some a from e3)
    rw [show (S2.agg ls).size = te.size from h2.symm] at e5
    show ret _ _ = _
    rw [e5]; rfl
  | big n =>
    obtain ⟨h1, h2⟩ := sizeOK_big hs
    rw [h1]
    injection e3 with e3
    show ret (.agg ⟨takeL te.size (dropL off l)⟩) _ = some (.agg ⟨a⟩, _)
    rw [← e3, show (S2.big n).size = te.size from h2.symm]; rfl

theorem ref_gFieldV {t : TypeId} {i : Nat} {x : Operand} {tm : T Value} {k : Value → Tr R} {K : Value → M R} (h : ∀ v, Ref (k v) (K v)) :
    Ref (gFieldV env t i (ev x tm) (gPlain (.field t x i) env call tm k) k) (M.bind (execOp (.field t x i) env call tm) K) := by
  have hplain := ref_plain (env := env) (call := call) (o := .field t x i) (tm := tm) h
  have hx : execOp (.field t x i) env call tm = fieldOf env t i fun f te => match ev x tm with
    | some (.agg cs) => partV te f.offset cs.toList
    | _ => M.fail := rfl
  unfold gFieldV
  cases ht : env.ty.get t with
  | none => exact ref_fail
  | some ti =>
    show Ref (match Nat.blt 12 (lenL ti.zero) with | false => _ | true => _) _
    cases Nat.blt 12 (lenL ti.zero) with
    | false => exact hplain
    | true =>
      rw [hx]
      unfold fieldOf
      rw [ht]
      show Ref (match ti.desc with
        | .struct fs => _
        | _ => _) (M.bind (match ti.desc with
        | .struct fs => fldK env _ (nthL fs.toList i)
        | _ => M.fail) K)
      cases hd : ti.desc with
      | struct fs =>
        show Ref (wO (nthL fs.toList i) fun f => wO (env.ty.get f.type) fun te => match ev x tm with
          | some (.agg cs) => match sizeOK te (shTI te) with
            | true => .op (fdM (shTI te) f.offset cs.toList) fun x => k ((shTI te).mk x)
            | false => .fail
          | _ => .fail) (M.bind (fldK env (fun f te => match ev x tm with
          | some (.agg cs) => partV te f.offset cs.toList
          | _ => M.fail) (nthL fs.toList i)) K)
        cases hf : nthL fs.toList i with
        | none => exact ref_fail
        | some f =>
          refine ref_wO (o := env.ty.get f.type) fun te hte => ?_
          cases hv : ev x tm with
          | none => exact ref_fail
          | some v => cases v with
            | agg cs =>
              show Ref (match sizeOK te (shTI te) with | true => _ | false => _) (M.bind (partV te f.offset cs.toList) K)
              cases hs : sizeOK te (shTI te) with
              | false => exact ref_fail
              | true => exact ref_node (fun x => (shTI te).mk x) h fun s a s' e => partV_run hs e
            | _ => exact ref_fail
      | _ => exact ref_fail

theorem ref_gIndex {d : TypeDesc} {x i : Value} {k : Value → Tr R} {K : Value → M R} (h : ∀ v, Ref (k v) (K v)) :
    Ref (gIndex env d (some x) (some i) k) (M.bind (indexV env d x i) K) := by
  unfold gIndex indexV
  split
  · rename_i n e
    cases x with
    | agg cs =>
      cases i with
      | int ik i =>
        cases ht : env.ty.get e with
        | none => exact ref_fail
        | some te =>
        show Ref (match sizeOK te (shTI te) with
          | true => .op (ixA (shTI te) n te.size cs.toList i) fun x => k ((shTI te).mk x)
          | false => .fail) _
        cases hs : sizeOK te (shTI te) with
        | false => exact ref_fail
        | true =>
        refine ref_node (fun x => (shTI te).mk x) h fun s a s' e' => ?_
        cases i with
        | negSucc i => cases e'
        | ofNat i =>
          have e2 : (match Nat.blt i n with
            | true => M.ofO (unCells (shTI te) (takeL (shTI te).size (dropL (Nat.mul i te.size) cs.toList)))
            | false => M.fail) s = some (a, s') := e'
          show (match Nat.blt i n with
            | true => M.withO (env.ty.get e) fun te => partV te (Nat.mul i te.size) cs.toList
            | false => M.fail) s = _
          cases hb : Nat.blt i n with
          | false => rw [hb] at e2; cases e2
          | true =>
            rw [hb] at e2
            rw [ht]
            show partV te (Nat.mul i te.size) cs.toList s = _
            exact partV_run hs e2
      | _ => cases env.ty.get e <;> exact ref_fail
    | _ => cases env.ty.get e <;> exact ref_fail
  · cases x with
    | string b =>
      cases i with
      | int ik i =>
        refine ref_node (mα := ixS b i) (fun c => .int .u8 c) h fun s a s' e => ?_
        revert e
        cases i with
        | negSucc i => intro e; cases e
        | ofNat i =>
          show (match nthL b.data.toList i with
            | some c => M.pure (Int.ofNat c.toNat)
            | none => M.fail) s = some (a, s') → (match nthL b.data.toList i with
            | some c => ret (.int .u8 (Int.ofNat c.toNat))
            | none => M.fail) s = _
          cases hb : nthL b.data.toList i with
          | none => intro e2; cases e2
          | some c =>
            intro e2
            obtain ⟨h1, h2⟩ := pure_some e2
            rw [← h1, h2]; rfl
      | _ => exact ref_fail
    | _ => exact ref_fail
  · exact ref_fail

theorem ref_gField {t : TypeId} {i : Nat} {x : Operand} {tm : T Value} {k : Value → Tr R} {K : Value → M R} (h : ∀ v, Ref (k v) (K v)) :
    Ref (gField env t i (ev x tm) k) (M.bind (opFieldAddr t x i env call tm) K) := by
  unfold gField opFieldAddr fieldOf
  refine ref_wO fun ti ht => ?_
  split
  · rename_i fs hd
    unfold fldK
    rw [hd]
    show Ref _ (M.bind (match nthL fs.toList i with
      | none => M.fail
      | some f => M.withO (env.ty.get f.type) _) K)
    cases nthL fs.toList i with
    | none => exact ref_fail
    | some f =>
      refine ref_wO (o := env.ty.get f.type) fun te hte => ?_
      cases hz : Nat.beq te.size 0 with
      | true => exact ref_fail
      | false =>
        show Ref (ptrT (ev x tm) _) (M.bind (M.withO (ev x tm) (ptrK (fldAddr f))) K)
        unfold ptrT
        split
        · rename_i p hp
          rw [hp]
          refine ref_node adrV h fun s a s' e => ?_
          obtain ⟨ad, rfl, e'⟩ := withO_some (show M.withO p _ s = _ from e)
          obtain ⟨h1, h2⟩ := pure_some e'
          rw [← h1, h2]; rfl
        · exact ref_fail
  · exact ref_fail

theorem mmV_min : ∀ (l : List Value) (x : Value) v, mmV false l x = some v → minV l x = some v
  | [], x, v, h => h
  | y :: l, x, v, h => by
    cases x with
    | int k a => cases y with
      | int k' b =>
        have h' : mmV false l (.int k (minI a b)) = some v := h
        have ih := mmV_min l _ v h'
        show (match iLt b a with | true => minV l (.int k b) | false => minV l (.int k a)) = some v
        unfold minI at ih
        cases hb : iLt b a <;> rw [hb] at ih <;> exact ih
      | _ => cases h
    | _ => cases h
theorem mmV_max : ∀ (l : List Value) (x : Value) v, mmV true l x = some v → maxV l x = some v
  | [], x, v, h => h
  | y :: l, x, v, h => by
    cases x with
    | int k a => cases y with
      | int k' b =>
        have h' : mmV true l (.int k (maxI a b)) = some v := h
        have ih := mmV_max l _ v h'
        show (match iLt a b with | true => maxV l (.int k b) | false => maxV l (.int k a)) = some v
        unfold maxI at ih
        cases hb : iLt a b <;> rw [hb] at ih <;> exact ih
      | _ => cases h
    | _ => cases h

theorem clearV_same {a b : TI} {v : Value} (h : a.zero = b.zero) : clearV a v = clearV b v := by
  unfold clearV; rw [h]
theorem clearV_undef {a : TI} {v u : Value} {s s' : HS} (h : clearV a v s = some (u, s')) : u = undef' := by
  unfold clearV at h
  cases v with
  | slice p n c =>
    cases p with
    | none => exact (pure_some h).1.symm
    | some p =>
      have h' : (match Nat.beq n 0 with
        | true => ret undef'
        | false => M.bind (storeN p (repL a.zero n)) unitV) s = some (u, s') := h
      cases e : Nat.beq n 0 with
      | true => rw [e] at h'; exact (pure_some h').1.symm
      | false =>
        rw [e] at h'
        obtain ⟨_, _, _, h2⟩ := bind_some h'
        exact (pure_some h2).1.symm
  | _ => cases h

theorem ref_gBuiltin {b : Builtin} {ts : List TypeId} {args : List Value} {pw : Tr R} {k : Value → Tr R} {K : Value → M R} (h : ∀ v, Ref (k v) (K v)) (hp : b = .len → Ref pw (M.bind (builtinV b env ts args) K)) :
    Ref (gBuiltin b env ts args pw k) (M.bind (builtinV b env ts args) K) := by
  unfold gBuiltin
  split
  · exact hp rfl
  · show Ref (gMM false args k) (M.bind (bMin args) K)
    cases args with
    | nil => exact ref_fail
    | cons x l =>
      show Ref (wO (mmV false l x) k) (M.bind (M.ofO (minV l x)) K)
      cases e : mmV false l x with
      | none => exact ref_fail
      | some v => rw [mmV_min l x v e]; exact ref_same (fun s => rfl) h
  · show Ref (gMM true args k) (M.bind (bMax args) K)
    cases args with
    | nil => exact ref_fail
    | cons x l =>
      show Ref (wO (mmV true l x) k) (M.bind (M.ofO (maxV l x)) K)
      cases e : mmV true l x with
      | none => exact ref_fail
      | some v => rw [mmV_max l x v e]; exact ref_same (fun s => rfl) h
  · split
    · rename_i t0 t1
      show Ref _ (M.bind (bAppend env t0 t1 args) K)
      unfold bAppend
      refine ref_wO fun ti ht => ?_
      unfold gSliceOf
      cases hd : ti.desc with
      | slice e =>
        refine ref_wO (o := env.ty.get e) fun te hte => ref_wO fun ti1 ht1 => ?_
        cases isIntD ti1.desc with
        | true => exact ref_fail
        | false =>
          match args with
          | [x, y] => exact ref_node slV h fun s a s' e => bind_svK e
          | [] => exact ref_fail
          | [_] => exact ref_fail
          | _ :: _ :: _ :: _ => exact ref_fail
      | _ => exact ref_fail
    · exact ref_fail
  · split
    · rename_i t l
      show Ref _ (M.bind (bCopy env t args) K)
      unfold bCopy
      refine ref_wO fun ti ht => ?_
      unfold gSliceOf
      cases hd : ti.desc with
      | slice e =>
        refine ref_wO (o := env.ty.get e) fun te hte => ?_
        match args with
        | [x, y] => exact ref_node (fun n => .int .i64 n) h fun s a s' e => bind_unInt e
        | [] => exact ref_fail
        | [_] => exact ref_fail
        | _ :: _ :: _ :: _ => exact ref_fail
      | _ => exact ref_fail
    · exact ref_fail
  · split
    · rename_i t l
      show Ref _ (M.bind (bClear env t args) K)
      unfold bClear
      refine ref_wO fun ti ht => ?_
      unfold gSliceOf
      cases hd : ti.desc with
      | slice e =>
        refine ref_wO (o := env.ty.get e) fun te hte => ?_
        match args with
        | [x] =>
          refine ref_node (mα := clM te.zero x) (fun _ => undef') h fun s a s' e => ?_
          obtain ⟨u, s1, e1, e2⟩ := bind_some (show M.bind _ _ s = _ from e)
          obtain ⟨_, e3⟩ := pure_some e2
          subst e3
          show clearV te x s = _
          rw [clearV_same (a := te) (b := ⟨.bool, 0, 0, te.zero, false⟩) rfl, e1, clearV_undef e1]
        | [] => exact ref_fail
        | _ :: _ :: _ => exact ref_fail
      | _ => exact ref_fail
    · exact ref_fail
  · exact ref_fail

theorem ref_gCall {sh : Option S3} {c : Call} {tm : T Value} {k : Value → Tr R} {K : Value → M R} (h : ∀ v, Ref (k v) (K v)) :
    Ref (gCall sh c env call tm (gPlain (.call c) env call tm k) k) (M.bind (execOp (.call c) env call tm) K) := by
  have hplain := ref_plain (env := env) (call := call) (o := .call c) (tm := tm) h
  have hx : execOp (.call c) env call tm = M.withO (evs c.args.toList tm) (calleeK c.callee c.argTypes env call tm) := rfl
  unfold gCall
  rw [hx] at hplain ⊢
  cases ha : evs c.args.toList tm with
  | none => exact ref_fail
  | some args =>
    rw [ha] at hplain
    show Ref (match c.callee with
      | .value f => wO (ev f tm) fun f => wO sh fun sh => .op (ty3 sh (callV call args f)) fun x => k (sh.mk x)
      | .builtin b => gBuiltin b env c.argTypes.toList args _ k
      | .invoke _ _ => .fail) (M.bind (calleeK c.callee c.argTypes env call tm args) K)
    have hplain' : Ref (gPlain (.call c) env call tm k) (M.bind (calleeK c.callee c.argTypes env call tm args) K) := hplain
    unfold calleeK at hplain' ⊢
    cases hc : c.callee with
    | value f =>
      refine ref_wO (o := ev f tm) fun fv hfv => ?_
      cases sh with
      | none => exact ref_fail
      | some sh =>
        refine ref_node (fun x => sh.mk x) h fun s a s' e => ?_
        obtain ⟨v, s1, e1, e2⟩ := bind_some (show M.bind _ _ s = some (a, s') from e)
        obtain ⟨e3, e4⟩ := ofO_some e2
        subst e4
        rw [e1, S3.un_mk e3]
    | builtin b =>
      rw [hc] at hplain'
      exact ref_gBuiltin h fun _ => hplain'
    | invoke _ _ => exact ref_fail

theorem ev_of (x : Operand) (tm : T Value) : (∃ v, ev x tm = some v) ∨ ev x tm = none := by
  cases ev x tm with
  | none => exact .inr rfl
  | some v => exact .inl ⟨v, rfl⟩

theorem ref_gOp' {sh : Option S3} {o : Op} {tm : T Value} {k : Value → Tr R} {K : Value → M R} (h : ∀ v, Ref (k v) (K v)) : Ref (gOp' sh o env call tm k) (M.bind (execOp o env call tm) K) := by
  unfold gOp'
  split
  · rename_i c a b
    show Ref _ (M.bind (opPick c a b env call tm) K)
    unfold gPick opPick
    split
    · rename_i c hc
      have one : ∀ x, Ref (wO (ev x tm) k) (M.bind (M.ofO (ev x tm)) K) := fun x => by
        cases ev x tm with
        | none => exact ref_fail
        | some v => exact ref_same (fun s => rfl) h
      rw [hc]
      refine ref_cond (fun hb => ?_) (fun hb => ?_) <;> subst hb <;> exact one _
    · exact ref_fail
  · exact ref_alloc h
  · rename_i t x
    exact ref_wO fun v hv => ref_gBox h
  · rename_i t n ps
    refine ref_wO (o := env.ty.get t) fun ti ht => ?_
    unfold gSliceOf
    cases hd : ti.desc with
    | slice e => exact ref_wO (o := env.ty.get e) fun te hte => ref_wO fun ps' hps => ref_buildSlice h
    | _ => exact ref_fail
  · rename_i t x
    refine ref_wO fun ti ht => ?_
    cases hx : ev x tm with
    | none => exact ref_fail
    | some v => cases v with
      | pointer p => exact ref_gLoad h
      | _ => exact ref_fail
  · rename_i t x y
    refine ref_wO fun ti ht => ref_wO fun v hv => ?_
    cases hx : ev x tm with
    | none => exact ref_fail
    | some u => cases u with
      | pointer p => exact ref_gStore h
      | _ => exact ref_fail
  · exact ref_gNil h
  · rename_i op t x y yt
    cases ht : env.ty.get t with
    | none => exact ref_fail
    | some ti => exact ref_gBin ht h
  · rename_i t l c
    refine ref_wO (o := env.ty.get t) fun ti ht => ?_
    unfold gSliceOf
    cases hd : ti.desc with
    | slice e =>
      refine ref_wO (o := env.ty.get e) fun te hte => ref_wO fun l' hl => ref_wO fun c' hc => ?_
      refine ref_node slV h fun s a s' e => ?_
      rw [makeK_same (a := te) (b := ⟨.bool, te.size, te.bytes, te.zero, false⟩) rfl rfl rfl]
      exact bind_svK e
    | _ => exact ref_fail
  · rename_i t x lo hi mx
    show Ref _ (M.bind (opSlice t x lo hi mx env call tm) K)
    unfold opSlice
    refine ref_wO fun ti ht => ?_
    cases hx : ev x tm with
    | none =>
      cases evO lo tm with
      | none => exact ref_fail
      | some lo => cases evO hi tm with
        | none => exact ref_fail
        | some hi => cases evO mx tm with
          | none => exact ref_fail
          | some mx =>
            show Ref (gSlice env ti.desc none lo hi mx k) _
            unfold gSlice
            split
            · cases env.ty.get _ <;> exact ref_fail
            · cases env.ty.get _ <;> exact ref_fail
            · exact ref_fail
    | some v => exact ref_wO fun lo hlo => ref_wO fun hi hhi => ref_wO fun mx hmx => ref_gSlice rfl h
  · exact ref_gField (call := call) h
  · exact ref_gFieldV h
  · rename_i t x i
    refine ref_wO fun ti ht => ?_
    cases hx : ev x tm with
    | none =>
      unfold gIndexAddr
      split
      · cases env.ty.get _ <;> exact ref_fail
      · cases env.ty.get _ <;> exact ref_fail
      · exact ref_fail
    | some v => cases hi : ev i tm with
      | none =>
        unfold gIndexAddr
        split
        · cases env.ty.get _ with
          | none => exact ref_fail
          | some te => cases v <;> exact ref_fail
        · cases env.ty.get _ with
          | none => exact ref_fail
          | some te => cases v <;> exact ref_fail
        · exact ref_fail
      | some i => exact ref_gIndexAddr h
  · rename_i t x i
    refine ref_wO fun ti ht => ?_
    cases hx : ev x tm with
    | none =>
      unfold gIndex
      split
      · cases env.ty.get _ <;> exact ref_fail
      · exact ref_fail
      · exact ref_fail
    | some v => cases hi : ev i tm with
      | none =>
        unfold gIndex
        split
        · cases env.ty.get _ with
          | none => exact ref_fail
          | some te => cases v <;> exact ref_fail
        · cases v <;> exact ref_fail
        · exact ref_fail
      | some i => exact ref_gIndex h
  · exact ref_gCall h
  · exact ref_plain h

/-- One temporaries' trie holds what the other one holds. -/
def LeT (t u : T Value) : Prop := ∀ n v, t.get n = some v → u.get n = some v
theorem LeT.refl (t : T Value) : LeT t t := fun _ _ h => h
theorem LeT.put {t u : T Value} (h : LeT t u) (d : Option Tmp) (v : Value) : LeT (putT d v t) (putT d v u) := by
  cases d with
  | none => exact h
  | some d =>
    intro n x hx
    show (u.set d v).get n = some x
    rw [show putT (some d) v t = t.set d v from rfl, T.get_set] at hx
    rw [T.get_set]
    by_cases e : n = d
    · rw [if_pos e] at hx ⊢; exact hx
    · rw [if_neg e] at hx ⊢; exact h n x hx
/-- Setting a slot to what it holds. -/
theorem LeT.known {t u : T Value} (h : LeT t u) {d : Tmp} {v : Value} (hd : t.get d = some v) : LeT (t.set d v) u := by
  intro n x hx
  rw [T.get_set] at hx
  by_cases e : n = d
  · rw [if_pos e] at hx; rw [e, ← hx]; exact h _ _ hd
  · rw [if_neg e] at hx; exact h _ _ hx

theorem defd_spec {tm : T Value} : ∀ (l : List Operand), defd tm l = true → ∀ t, .tmp t ∈ l → ∃ v, tm.get t = some v
  | [], _, t, h => by cases h
  | x :: l, hd, t, h => by
    have rest : defd tm l = true → .tmp t ∈ l → ∃ v, tm.get t = some v := fun h1 h2 => defd_spec l h1 t h2
    cases x with
    | tmp u =>
      have hd' : (match tm.get u with | some _ => defd tm l | none => false) = true := hd
      cases e : tm.get u with
      | none => rw [e] at hd'; cases hd'
      | some v =>
        rw [e] at hd'
        rcases List.mem_cons.1 h with h | h
        · injection h with h; exact ⟨v, by rw [h]; exact e⟩
        · exact rest hd' h
    | _ =>
      rcases List.mem_cons.1 h with h | h
      · cases h
      · exact rest hd h

theorem ref_gOp {sh : Option S3} {o : Op} {tT tm : T Value} (hle : LeT tT tm) {k : Value → Tr R} {K : Value → M R} (h : ∀ v, Ref (k v) (K v)) : Ref (gOp sh o env call tT k) (M.bind (execOp o env call tm) K) := by
  unfold gOp
  cases hd : defd tT o.operands.toList with
  | false => exact ref_fail
  | true =>
    rw [execOp_congr (tm := tm) (tm2 := tT) o fun t ht => by
      obtain ⟨v, hv⟩ := defd_spec _ hd t ht
      rw [hv, hle _ _ hv]]
    exact ref_gOp' h
end
end Go.Ax
