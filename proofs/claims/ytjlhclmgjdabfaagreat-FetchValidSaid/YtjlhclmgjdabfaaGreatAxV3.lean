/- Shallow code out of the executor's: what the generator makes of an operation stands for it.
Conditions: none. -/
import Derived.Test.YtjlhclmgjdabfaaGreatAxV2

namespace Go.Ax
set_option linter.unusedSectionVars false
set_option linter.unusedVariables false
set_option linter.unusedSimpArgs false

/-- Where the tree comes to an end, so does the step, and to the same. -/
def Ref {R : Type} (t : Tr R) (m : M R) : Prop := ∀ s r, t.run s = some r → m s = some r

section
variable {R : Type} {env : Env} {call : CallH}

theorem ref_fail {m : M R} : Ref .fail m := fun s r h => by cases h
theorem ref_ret (a : R) : Ref (.ret a) (M.pure a) := fun s r h => h
theorem ref_same {m : M Value} {v : Value} {k : Value → Tr R} {K : Value → M R} (hm : ∀ s, m s = some (v, s)) (h : ∀ v, Ref (k v) (K v)) : Ref (k v) (M.bind m K) := fun s r e => bind_of (hm s) (h v s r e)
theorem ref_node {α : Type} {mα : M α} {m : M Value} (f : α → Value) {k : Value → Tr R} {K : Value → M R} (h : ∀ v, Ref (k v) (K v)) (hm : ∀ s a s', mα s = some (a, s') → m s = some (f a, s')) :
    Ref (.op mα fun a => k (f a)) (M.bind m K) := fun s r e => by
  obtain ⟨a, s1, e1, e2⟩ := bind_some (show M.bind mα (fun a => (k (f a)).run) s = some (r.1, r.2) from e)
  exact bind_of (hm _ _ _ e1) (h _ _ _ e2)
theorem ref_wO {α : Type} {o : Option α} {k : α → Tr R} {m : α → M Value} {K : Value → M R} (h : ∀ a, o = some a → Ref (k a) (M.bind (m a) K)) : Ref (wO o k) (M.bind (M.withO o m) K) := by
  cases o with
  | none => exact ref_fail
  | some a => exact h a rfl
theorem ref_cond {b : Bool} {t e : Tr R} {m : M R} (h1 : b = true → Ref t m) (h2 : b = false → Ref e m) : Ref (cond b t e) m := by
  cases b with
  | true => exact h1 rfl
  | false => exact h2 rfl

theorem ofO_some {α : Type} {o : Option α} {s s' : HS} {a : α} (h : M.ofO o s = some (a, s')) : o = some a ∧ s' = s := by
  cases o with
  | none => cases h
  | some b => injection h with h; injection h with h1 h2; exact ⟨by rw [h1], h2.symm⟩
theorem pure_some {α : Type} {x a : α} {s s' : HS} (h : M.pure x s = some (a, s')) : x = a ∧ s' = s := by
  injection h with h; injection h with h1 h2; exact ⟨h1, h2.symm⟩
theorem withO_some {α β : Type} {o : Option α} {k : α → M β} {s s' : HS} {b : β} (h : M.withO o k s = some (b, s')) : ∃ a, o = some a ∧ k a s = some (b, s') := by
  cases o with
  | none => cases h
  | some a => exact ⟨a, rfl, h⟩

theorem svK_some {v : Value} {x : SV} {s s' : HS} (h : svK v s = some (x, s')) : v = slV x ∧ s' = s := by
  obtain ⟨h1, h2⟩ := ofO_some h
  exact ⟨S1.un_mk (s := .slice) h1, h2⟩
theorem bind_svK {m : M Value} {x : SV} {s s' : HS} (h : M.bind m svK s = some (x, s')) : m s = some (slV x, s') := by
  obtain ⟨v, s1, h1, h2⟩ := bind_some h
  obtain ⟨h3, h4⟩ := svK_some h2
  rw [h1, h3, h4]
theorem unInt_some {k : IntKind} {v : Value} {n : Int} {s s' : HS} (h : M.ofO (S1.un (.int k) v) s = some (n, s')) : v = .int k n ∧ s' = s := by
  obtain ⟨h1, h2⟩ := ofO_some h
  exact ⟨S1.un_mk (s := .int k) h1, h2⟩
theorem bind_unInt {k : IntKind} {m : M Value} {n : Int} {s s' : HS} (h : M.bind m (fun v => M.ofO (S1.un (.int k) v)) s = some (n, s')) : m s = some (.int k n, s') := by
  obtain ⟨v, s1, h1, h2⟩ := bind_some h
  obtain ⟨h3, h4⟩ := unInt_some h2
  rw [h1, h3, h4]

theorem sizeOK_one {ti : TI} {x : S1} (h : sizeOK ti (.one x) = true) : isAggD ti.desc = false := by
  unfold sizeOK at h
  cases e : isAggD ti.desc with
  | true => rw [e] at h; cases h
  | false => rfl
theorem sizeOK_agg {ti : TI} {l : List S1} (h : sizeOK ti (.agg l) = true) : isAggD ti.desc = true ∧ ti.size = lenL l := by
  unfold sizeOK at h
  cases e : isAggD ti.desc with
  | true => rw [e] at h; exact ⟨rfl, Nat.eq_of_beq_eq_true h⟩
  | false => rw [e] at h; cases h

theorem unCells_one {x : S1} {l : List Value} {y : x.Sem} (h : unCells (.one x) l = some y) : l = [x.mk y] := by
  match l, h with
  | [v], h => rw [S1.un_mk (s := x) (show x.un v = some y from h)]

theorem ref_gLoad {ti : TI} {p : Option Addr} {k : Value → Tr R} {K : Value → M R} (h : ∀ v, Ref (k v) (K v)) : Ref (gLoad ti p k) (M.bind (ptrK (loadV ti) (.pointer p)) K) := by
  unfold gLoad
  split
  · rename_i hs
    refine ref_node (fun x => (shTI ti).mk x) h fun s a s' e => ?_
    obtain ⟨ad, rfl, e'⟩ := withO_some (show M.withO p _ s = _ from e)
    obtain ⟨l, s1, e1, e2⟩ := bind_some e'
    obtain ⟨e2, e3⟩ := ofO_some e2
    subst e3
    show loadV ti ad s = _
    unfold loadV
    generalize hsh : shTI ti = sh at hs a e1 e2
    cases sh with
    | one x =>
      rw [sizeOK_one hs]
      refine bind_of e1 ?_
      rw [unCells_one e2]; rfl
    | agg ls =>
      obtain ⟨h1, h2⟩ := sizeOK_agg hs
      rw [h1]
      refine bind_of (show loadN ad ti.size s = some (l, s') from by rw [h2]; exact e1) ?_
      rw [S1.unL_mk (show S1.unL ls l = some a from e2)]; rfl
  · exact ref_fail

theorem ref_gNil {o : Option Value} {k : Value → Tr R} {K : Value → M R} (h : ∀ v, Ref (k v) (K v)) : Ref (gNil o k) (M.bind (M.withO o nilK) K) := by
  unfold gNil
  split
  · rename_i p
    refine ref_node adrV h fun s a s' e => ?_
    obtain ⟨e1, e2⟩ := ofO_some e
    subst e1; subst e2; rfl
  · exact ref_same (fun s => rfl) h
  · exact ref_fail

theorem ref_plain {o : Op} {tm : T Value} {k : Value → Tr R} {K : Value → M R} (h : ∀ v, Ref (k v) (K v)) : Ref (gPlain o env call tm k) (M.bind (execOp o env call tm) K) := by
  unfold gPlain
  cases hp : plainOp o env with
  | false => exact ref_fail
  | true =>
    have hc : cls o env = .pure := by
      unfold plainOp at hp
      cases e : cls o env <;> rw [e] at hp <;> first | rfl | cases hp
    show Ref (pureK (execOp o env call tm s0) k) _
    have hq := quiet_exec (env := env) (call := call) o tm (by rw [hc]; rfl)
    rw [reads_pure o tm hc] at hq
    cases e : execOp o env call tm s0 with
    | none => exact ref_fail
    | some q =>
      obtain ⟨v, s1⟩ := q
      refine ref_same (v := v) (fun s => ?_) h
      obtain ⟨r, h1, h2⟩ := hq s0 s (fun x hx => by cases hx)
      rw [h2]
      rw [h1] at e
      cases r with
      | none => cases e
      | some u => injection e with e; injection e with e1 e2; rw [← e1]; rfl

theorem ref_gBin {op : BinOp} {t yt : TypeId} {ti : TI} {x y : Operand} {tm : T Value} (ht : env.ty.get t = some ti) {k : Value → Tr R} {K : Value → M R} (h : ∀ v, Ref (k v) (K v)) :
    Ref (gBin op ti x y env tm (gPlain (.binOp op t x y yt) env call tm k) k) (M.bind (execOp (.binOp op t x y yt) env call tm) K) := by
  have hx : execOp (.binOp op t x y yt) env call tm = M.withO (ev x tm) fun a => M.withO (ev y tm) fun b => M.ofO (binV ti op a b) := by
    show M.withO (env.ty.get t) _ = _
    rw [ht]; rfl
  have har : op ≠ .eql → op ≠ .neq → Ref (intT (ev x tm) fun ik m => intT (ev y tm) fun jk n => .op (arM op ik m jk n) fun r => k (.int ik r)) (M.bind (execOp (.binOp op t x y yt) env call tm) K) := by
    intro _ _
    rw [hx]
    unfold intT
    split
    · rename_i ik m hm
      rw [hm]
      split
      · rename_i jk n hn
        rw [hn]
        exact ref_node (fun r => .int ik r) h fun s a s' e => bind_unInt e
      · exact ref_fail
    · exact ref_fail
  have hp : ev y tm = some (.pointer none) → Ref (gNilP op ti (ev x tm) k) (M.bind (execOp (.binOp op t x y yt) env call tm) K) := by
    intro hy
    rw [hx, hy]
    unfold gNilP
    split
    · rename_i e hd
      split
      · rename_i p hp
        rw [hp]
        have he : eqlV ti (.pointer p) (.pointer none) = some (isNil p) := by
          unfold eqlV
          rw [hd]
          cases p <;> rfl
        split
        · refine ref_same (v := .bool (isNil p)) (fun s => ?_) h
          show M.ofO (match eqlV ti (.pointer p) (.pointer none) with | some b => ofB b | none => none) s = _
          rw [he]; rfl
        · refine ref_same (v := .bool (!isNil p)) (fun s => ?_) h
          show M.ofO (match eqlV ti (.pointer p) (.pointer none) with | some b => ofB (!b) | none => none) s = _
          rw [he]; rfl
        · exact ref_fail
      · exact ref_fail
    · exact ref_fail
  have hs : ev y tm = some (.slice none 0 0) → Ref (gNilS op ti (ev x tm) k) (M.bind (execOp (.binOp op t x y yt) env call tm) K) := by
    intro hy
    rw [hx, hy]
    unfold gNilS
    split
    · rename_i e hd
      split
      · rename_i p n c hp
        rw [hp]
        have he : eqlV ti (.slice p n c) (.slice none 0 0) = some (isNil p) := by
          unfold eqlV
          rw [hd]
          cases p <;> rfl
        split
        · refine ref_same (v := .bool (isNil p)) (fun s => ?_) h
          show M.ofO (match eqlV ti (.slice p n c) (.slice none 0 0) with | some b => ofB b | none => none) s = _
          rw [he]; rfl
        · refine ref_same (v := .bool (!isNil p)) (fun s => ?_) h
          show M.ofO (match eqlV ti (.slice p n c) (.slice none 0 0) with | some b => ofB (!b) | none => none) s = _
          rw [he]; rfl
        · exact ref_fail
      · exact ref_fail
    · exact ref_fail
  unfold gBin
  split
  · split
    · rename_i hy; exact hp hy
    · rename_i hy; exact hs hy
    · exact ref_fail
  · split
    · exact har (by decide) (by decide)
    · exact har (by decide) (by decide)
    · split
      · exact ref_plain h
      · exact har (by decide) (by decide)
    · split
      · exact ref_plain h
      · exact har (by decide) (by decide)
    · exact ref_plain h
end
end Go.Ax
