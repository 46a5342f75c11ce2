/- Shallow code out of the executor's: the generator for code and functions, definitions.
Conditions: none. -/
import Derived.Test.YtjlhclmgjdabfaaGreatAxE
import Derived.Test.YtjlhclmgjdabfaaGreatAxV
namespace Go.Ax
set_option linter.unusedSimpArgs false
set_option linter.unusedSectionVars false
set_option linter.unusedVariables false
noncomputable section

/-! ### Sets of temporaries as bits -/

def setB (m t : Nat) : Nat := Nat.lor m (Nat.pow 2 t)
def clrB (m t : Nat) : Nat := match bit m t with
  | true => Nat.sub m (Nat.pow 2 t)
  | false => m
def useL (l : List Tmp) (m : Nat) : Nat := List.rec (motive := fun _ => Nat) m (fun t _ m => setB m t) l
def dstB (d : Option Tmp) (m : Nat) : Nat := match d with
  | some d => clrB m d
  | none => m
def setD (d : Option Tmp) (m : Nat) : Nat := match d with
  | some d => setB m d
  | none => m
def liveOps (ops l : List Oper) (m : Nat) : Nat := List.rec (motive := fun _ => Nat) m (fun o _ m => useL (looks ops o) (dstB o.dst m)) l
/-- Whose slots are written. -/
def wrOps (l : List Oper) : Nat := List.rec (motive := fun _ => Nat) 0 (fun o _ m => setD o.dst m) l
def wrC (c : Code) : Nat := Code.rec (motive := fun _ => Nat)
  (skip := 0) (region := fun _ ops _ => wrOps ops.toList) (seq := fun _ _ a b => Nat.lor a b) (cond := fun _ _ _ a b => Nat.lor a b) (block := fun _ _ a => a) (loop := fun _ a => a)
  (rangeFunc := fun _ _ _ _ _ _ => 0) (exit := fun _ => 0) (scope := fun _ a => a) (label := fun _ => 0) (goto := fun _ => 0) (ret := 0) (refuse := fun _ => 0) c

def dsts (l : List Oper) : List Tmp := List.rec (motive := fun _ => List Tmp) [] (fun o _ r => match o.dst with
  | some d => d :: r
  | none => r) l
def wrL (c : Code) : List Tmp := Code.rec (motive := fun _ => List Tmp)
  (skip := []) (region := fun _ ops _ => dsts ops.toList) (seq := fun _ _ a b => appL a b) (cond := fun _ _ _ a b => appL a b) (block := fun _ _ a => a) (loop := fun _ a => a)
  (rangeFunc := fun _ _ _ _ _ _ => []) (exit := fun _ => []) (scope := fun _ a => a) (label := fun _ => []) (goto := fun _ => []) (ret := []) (refuse := fun _ => []) c

abbrev Outs := AExit → Nat
def sameEx : AExit → AExit → Bool
  | .normal, .normal => true
  | .ret, .ret => true
  | .exit i, .exit j => Nat.beq i j
  | _, _ => false
def outsN (outs : Outs) (m : Nat) : Outs := fun e => match e with
  | .normal => m
  | e => outs e
def outsB (outs : Outs) (id : Nat) : Outs := fun e => match e with
  | .exit i => match Nat.beq i id with
    | true => outs .normal
    | false => outs (.exit i)
  | e => outs e
def opU (x : Operand) (m : Nat) : Nat := match x with
  | .tmp t => setB m t
  | _ => m
/-- What is read later on, ahead of the code. -/
def liveC (c : Code) : Outs → Nat := Code.rec (motive := fun _ => Outs → Nat)
  (skip := fun outs => outs .normal) (region := fun _ ops _ outs => liveOps ops.toList ops.toList (outs .normal)) (seq := fun _ _ a b outs => a (outsN outs (b outs)))
  (cond := fun c _ _ a b outs => opU c (Nat.lor (a outs) (b outs))) (block := fun id _ a outs => a (outsB outs id)) (loop := fun _ a outs => a (outsN outs (a (outsN outs (a (outsN outs 0))))))
  (rangeFunc := fun _ _ _ _ _ _ outs => outs .normal) (exit := fun id outs => outs (.exit id)) (scope := fun _ a => a) (label := fun _ _ => 0) (goto := fun _ _ => 0) (ret := fun outs => outs .ret) (refuse := fun _ _ => 0) c

def memEx (e : AExit) (l : List AExit) : Bool := List.rec (motive := fun _ => Bool) false (fun x _ b => match sameEx e x with
  | true => true
  | false => b) l
def unionEx (l m : List AExit) : List AExit := List.rec (motive := fun _ => List AExit) m (fun x _ r => match memEx x m with
  | true => r
  | false => x :: r) l
def dropEx (e : AExit) (l : List AExit) : List AExit := List.rec (motive := fun _ => List AExit) [] (fun x _ r => match sameEx e x with
  | true => r
  | false => x :: r) l
/-- The ways out that are not the end. -/
def exC (c : Code) : List AExit := Code.rec (motive := fun _ => List AExit)
  (skip := []) (region := fun _ _ _ => []) (seq := fun _ _ a b => unionEx a b) (cond := fun _ _ _ a b => unionEx a b) (block := fun id _ a => dropEx (.exit id) a) (loop := fun _ a => a)
  (rangeFunc := fun _ _ _ _ _ _ => []) (exit := fun id => [.exit id]) (scope := fun _ a => a) (label := fun _ => []) (goto := fun _ => []) (ret := [.ret]) (refuse := fun _ => []) c
/-- How many ways lead to an exit; to the end. -/
def cntE (id : Nat) (c : Code) : Nat := Code.rec (motive := fun _ => Nat)
  (skip := 0) (region := fun _ _ _ => 0) (seq := fun _ _ a b => Nat.add a b) (cond := fun _ _ _ a b => Nat.add a b) (block := fun _ _ a => a) (loop := fun _ a => a)
  (rangeFunc := fun _ _ _ _ _ _ => 0) (exit := fun i => match Nat.beq i id with
    | true => 1
    | false => 0) (scope := fun _ a => a) (label := fun _ => 0) (goto := fun _ => 0) (ret := 0) (refuse := fun _ => 0) c
def npC (c : Code) : Nat := Code.rec (motive := fun _ => Nat)
  (skip := 1) (region := fun _ _ _ => 1) (seq := fun _ _ a b => Nat.mul a b) (cond := fun _ _ _ a b => Nat.add a b) (block := fun id c a => Nat.add a (cntE id c)) (loop := fun _ _ => 0)
  (rangeFunc := fun _ _ _ _ _ _ => 1) (exit := fun _ => 0) (scope := fun _ a => a) (label := fun _ => 0) (goto := fun _ => 0) (ret := 0) (refuse := fun _ => 0) c
def szC (c : Code) : Nat := Code.rec (motive := fun _ => Nat)
  (skip := 0) (region := fun _ ops _ => lenL ops.toList) (seq := fun _ _ a b => Nat.add a b) (cond := fun _ _ _ a b => Nat.succ (Nat.add a b)) (block := fun _ _ a => a) (loop := fun _ a => Nat.add a 5)
  (rangeFunc := fun _ _ _ _ _ _ => 5) (exit := fun _ => 0) (scope := fun _ a => a) (label := fun _ => 0) (goto := fun _ => 0) (ret := 0) (refuse := fun _ => 0) c
/-- Does an operation wait for another one's answer? -/
def anyGuard (l : List Oper) : Bool := List.rec (motive := fun _ => Bool) false (fun o _ b => match o.guard with
  | some _ => true
  | none => b) l
def gdC (c : Code) : Bool := Code.rec (motive := fun _ => Bool)
  (skip := false) (region := fun _ ops _ => anyGuard ops.toList) (seq := fun _ _ a b => match a with
    | true => true
    | false => b) (cond := fun _ _ _ _ _ => false) (block := fun _ _ _ => false) (loop := fun _ _ => false)
  (rangeFunc := fun _ _ _ _ _ _ => false) (exit := fun _ => false) (scope := fun _ _ => false) (label := fun _ => false) (goto := fun _ => false) (ret := false) (refuse := fun _ => false) c
/-- Does the code begin with a branch? -/
def hdCond (c : Code) : Bool := Code.rec (motive := fun _ => Bool)
  (skip := false) (region := fun _ _ _ => false) (seq := fun _ _ a _ => a) (cond := fun _ _ _ _ _ => true) (block := fun _ _ a => a) (loop := fun _ _ => false)
  (rangeFunc := fun _ _ _ _ _ _ => false) (exit := fun _ => false) (scope := fun _ _ => false) (label := fun _ => false) (goto := fun _ => false) (ret := false) (refuse := fun _ => false) c
/-- Ways that meet again are cut here. -/
def cutB (a b : Code) : Bool := match Nat.ble 2 (npC a) with
  | true => Nat.ble 2 (szC b)
  | false => match gdC a with
    | true => match hdCond b with
      | true => false
      | false => Nat.ble 4 (szC b)
    | false => false

/-! ### What is handed over at a cut -/

abbrev LV := List (Tmp × S2)
def SemV : LV → Type
  | [] => Unit
  | x :: l => x.2.Sem × SemV l
def getV : (l : LV) → T Value → Option (SemV l)
  | [] => fun _ => some ()
  | x :: l => fun tm => match tm.get x.1 with
    | none => none
    | some v => pairO (x.2.un v) (getV l tm)
def putV : (l : LV) → SemV l → T Value → T Value
  | [] => fun _ tm => tm
  | x :: l => fun p tm => putV l p.2 (tm.set x.1 (x.2.mk p.1))
def SemX : List (AExit × LV) → Type
  | [] => Empty
  | e :: l => match l with
    | [] => SemV e.2
    | _ :: _ => SemV e.2 ⊕ SemX l
def mapO {α β : Type} (f : α → β) (o : Option α) : Option β := match o with
  | none => none
  | some a => some (f a)
def injX : (l : List (AExit × LV)) → AExit → T Value → Option (SemX l)
  | [] => fun _ _ => none
  | e :: [] => fun x tm => match sameEx e.1 x with
    | true => getV e.2 tm
    | false => none
  | e :: f :: l => fun x tm => match sameEx e.1 x with
    | true => mapO Sum.inl (getV e.2 tm)
    | false => mapO Sum.inr (injX (f :: l) x tm)
def caseX {R : Type} : (l : List (AExit × LV)) → SemX l → (AExit → T Value → Tr R) → T Value → Tr R
  | [] => fun _ _ _ => .fail
  | e :: [] => fun x k tm => k e.1 (putV e.2 x tm)
  | e :: f :: l => fun x k tm => cs x (fun a => k e.1 (putV e.2 a tm)) fun b => caseX (f :: l) b k tm

/-- The temporaries of a set. -/
def bitsL (m : Nat) (n : Nat) : List Tmp := Nat.rec (motive := fun _ => List Tmp → List Tmp) (fun l => l) (fun t f l => match bit m t with
  | true => f (t :: l)
  | false => f l) n []
def shapes (st : T S2) (l : List Tmp) : LV := List.rec (motive := fun _ => LV) [] (fun t _ r => match st.get t with
  | some s => (t, s) :: r
  | none => r) l
def delL (l : List Tmp) (tm : T Value) : T Value := List.rec (motive := fun _ => T Value → T Value) (fun tm => tm) (fun t _ f tm => f (match tm.get t with
  | some _ => tm.del t
  | none => tm)) l tm
def exitsOf (st : T S2) (n : Nat) (w : Nat) (outs : Outs) (l : List AExit) : List (AExit × LV) := List.rec (motive := fun _ => List (AExit × LV)) [] (fun e _ r => (e, shapes st (bitsL (Nat.land (outs e) w) n)) :: r) l

/-- What stands for all. -/
structure GE where
  shT : Nat → Option S3
  st : T S2
  n : Nat
  env : Env
  call : CallH
  lf : Nat

def gCond {R : Type} (c : Operand) (tm : T Value) (yes no : T Value → Tr R) : Tr R := match c with
  | .tmp t => match tm.get t with
    | some (.bool b) => cond b (yes (tm.set t (.bool true))) (no (tm.set t (.bool false)))
    | _ => .fail
  | .const (.bool b) => cond b (yes tm) (no tm)
  | _ => .fail

def isNormal (e : AExit) : Bool := match e with
  | .normal => true
  | _ => false
def contN {R : Type} (b : T Value → Tr R) (k : AExit → T Value → Tr R) (e : AExit) (tm : T Value) : Tr R := match e with
  | .normal => b tm
  | .exit i => k (.exit i) tm
  | .ret => k .ret tm
def blockE (id : Nat) (e : AExit) : AExit := match e with
  | .exit i => match Nat.beq i id with
    | true => .normal
    | false => .exit i
  | e => e
def exOf (c : Code) (l : List AExit) : List AExit := match npC c with
  | 0 => l
  | _ => .normal :: l

def gCut {R : Type} (X : List (AExit × LV)) (W : List Tmp) (a : (AExit → T Value → Tr (SemX X)) → Tr (SemX X)) (tm : T Value) (k : AExit → T Value → Tr R) : Tr R :=
  .bind (a fun e tm => wO (injX X e tm) .ret) fun x => caseX X x k (delL W tm)
def gLoop {R : Type} (lf : Nat) (L : LV) (X : List (AExit × LV)) (W : List Tmp) (a : T Value → (AExit → T Value → Tr (SemV L ⊕ SemX X)) → Tr (SemV L ⊕ SemX X)) (tm : T Value) (k : AExit → T Value → Tr R) : Tr R :=
  wO (getV L tm) fun x0 => .loop (fun x => a (putV L x (delL W tm)) fun e tm => match e with
    | .normal => wO (getV L tm) fun y => .ret (.inl y)
    | .exit i => wO (injX X (.exit i) tm) fun y => .ret (.inr y)
    | .ret => wO (injX X .ret tm) fun y => .ret (.inr y)) lf x0 fun x => caseX X x k (delL W tm)

abbrev GC := ∀ R : Type, GE → Outs → T Value → (AExit → T Value → Tr R) → Tr R

def gSeq (ca cb : Code) (a b : GC) : GC := fun R G outs tm k => match cutB ca cb with
  | false => a R G (outsN outs (liveC cb outs)) tm (contN (fun tm => b R G outs tm k) k)
  | true => gCut (exitsOf G.st G.n (wrC ca) (outsN outs (liveC cb outs)) (exOf ca (exC ca))) (wrL ca) (a _ G (outsN outs (liveC cb outs)) tm) tm (contN (fun tm => b R G outs tm k) k)
def gLoopC (ca : Code) (a : GC) : GC := fun R G outs tm k =>
  (fun X => gLoop G.lf (shapes G.st (bitsL (Nat.land X (wrC ca)) G.n)) (exitsOf G.st G.n (wrC ca) outs (exC ca)) (wrL ca) (a _ G (outsN outs X)) tm k) (liveC (.loop ca) outs)

def gC (c : Code) : GC := Code.rec (motive := fun _ => GC)
  (skip := fun R G outs tm k => k .normal tm)
  (region := fun _ ops d R G outs tm k => gRegion G.shT ops.toList d G.env G.call tm (k .normal))
  (seq := gSeq)
  (cond := fun c _ _ a b R G outs tm k => gCond c tm (fun tm => a R G outs tm k) (fun tm => b R G outs tm k))
  (block := fun id _ a R G outs tm k => a R G (outsB outs id) tm fun e tm => k (blockE id e) tm)
  (loop := gLoopC)
  (rangeFunc := fun _ _ _ _ _ _ _ _ _ _ _ => .fail)
  (exit := fun id R G outs tm k => k (.exit id) tm)
  (scope := fun _ _ _ _ _ _ _ => .fail)
  (label := fun _ _ _ _ _ _ => .fail)
  (goto := fun _ _ _ _ _ _ => .fail)
  (ret := fun R G outs tm k => k .ret tm)
  (refuse := fun _ _ _ _ _ _ => .fail) c

/-! ### Functions -/

def s2Of (P : Program) (t : Nat) : Option S2 := match tiOf P false t with
  | some ti => some (shTI ti)
  | none => none
def s2All (P : Program) : List Nat → Option (List S2)
  | [] => some []
  | t :: l => match s2Of P t with
    | none => none
    | some s => match s2All P l with
      | none => none
      | some r => some (s :: r)
/-- The shape of a type. -/
def s3Of (P : Program) (t : Nat) : Option S3 := match P.underlying t with
  | some (.tuple es) => match s2All P es.toList with
    | some l => some (.tup l)
    | none => none
  | _ => match s2Of P t with
    | some s => some (.v s)
    | none => none

def shOps (shT : Nat → Option S3) (l : List Oper) : T S2 → T S2 := List.rec (motive := fun _ => T S2 → T S2) (fun st => st) (fun o _ f st => f (match o.dst with
  | some d => match shT o.type with
    | some (.v s) => st.set d s
    | _ => st
  | none => st)) l
def shC (shT : Nat → Option S3) (c : Code) : T S2 → T S2 := Code.rec (motive := fun _ => T S2 → T S2)
  (skip := fun st => st) (region := fun _ ops _ => shOps shT ops.toList) (seq := fun _ _ a b st => b (a st)) (cond := fun _ _ _ a b st => b (a st)) (block := fun _ _ a => a) (loop := fun _ a => a)
  (rangeFunc := fun _ _ _ _ _ _ st => st) (exit := fun _ st => st) (scope := fun _ a => a) (label := fun _ st => st) (goto := fun _ st => st) (ret := fun st => st) (refuse := fun _ st => st) c
def shPs (shT : Nat → Option S3) : List TypeId → Nat → T S2 → T S2
  | [] => fun _ st => st
  | t :: l => fun i st => shPs shT l (Nat.succ i) (match shT t with
    | some (.v s) => st.set i s
    | _ => st)

def resU (rs : List ResultVar) : Nat := List.rec (motive := fun _ => Nat) 0 (fun r _ m => match r with
  | .tmp t => setB m t
  | .cell a _ => setB m a) rs

def gRes (env : Env) (tm : T Value) : List ResultVar → (List Value → Tr Value) → Tr Value
  | [] => fun k => k []
  | r :: l => fun k => match r with
    | .tmp t => wO (tm.get t) fun v => gRes env tm l fun vs => k (v :: vs)
    | .cell a t => wO (env.ty.get t) fun ti => ptrT (tm.get a) fun p => gLoad ti p fun v => gRes env tm l fun vs => k (v :: vs)
def tupV (l : List Value) : Value := match l with
  | [v] => v
  | l => .tuple ⟨l⟩
def gEnd (env : Env) (rs : List ResultVar) (e : AExit) (tm : T Value) : Tr Value := match e with
  | .normal => gRes env tm rs fun vs => .ret (tupV vs)
  | .ret => gRes env tm rs fun vs => .ret (tupV vs)
  | .exit _ => .fail

def gFn (shT : Nat → Option S3) (env : Env) (call : CallH) (lf : Nat) (args : List Value) (fn : Func) : Tr Value := match fn.body with
  | some c => match Nat.ble (lenL args) fn.ntmps with
    | true => gC c Value { shT := shT, st := shC shT c (shPs shT fn.params.toList 0 .nil), n := fn.ntmps, env := env, call := call, lf := lf } (fun _ => resU fn.results.toList) (T.ofList args) (gEnd env fn.results.toList)
    | false => .fail
  | none => .fail
end
end Go.Ax

/- Shallow code out of the executor's: what the generator makes of an operation stands for it.
Conditions: none. -/
namespace Go.Ax
set_option linter.unusedSectionVars false
set_option linter.unusedVariables false
set_option linter.unusedSimpArgs false

/-- Where the tree comes to an end, so does the step, and to the same. -/
def Ref {R : Type} (t : Tr R) (m : M R) : Prop := ∀ s r, t.run s = some r → m s = some r

section
variable {R : Type} {env : Env} {call : CallH}

theorem ref_fail {m : M R} : Ref .fail m := fun s r h => by cases h
theorem ref_ret (a : R) : Ref (.ret a) (M.pure a) := fun s r h => h
theorem ref_same {m : M Value} {v : Value} {k : Value → Tr R} {K : Value → M R} (hm : ∀ s, m s = some (v, s)) (h : ∀ v, Ref (k v) (K v)) : Ref (k v) (M.bind m K) := fun s r e => bind_of (hm s) (h v s r e)
theorem ref_node {α : Type} {mα : M α} {m : M Value} (f : α → Value) {k : Value → Tr R} {K : Value → M R} (h : ∀ v, Ref (k v) (K v)) (hm : ∀ s a s', mα s = some (a, s') → m s = some (f a, s')) :
    Ref (.op mα fun a => k (f a)) (M.bind m K) := fun s r e => by
  obtain ⟨a, s1, e1, e2⟩ := bind_some (show M.bind mα (fun a => (k (f a)).run) s = some (r.1, r.2) from e)
  exact bind_of (hm _ _ _ e1) (h _ _ _ e2)
theorem ref_wO {α : Type} {o : Option α} {k : α → Tr R} {m : α → M Value} {K : Value → M R} (h : ∀ a, o = some a → Ref (k a) (M.bind (m a) K)) : Ref (wO o k) (M.bind (M.withO o m) K) := by
  cases o with
  | none => exact ref_fail
  | some a => exact h a rfl
theorem ref_cond {b : Bool} {t e : Tr R} {m : M R} (h1 : b = true → Ref t m) (h2 : b = false → Ref e m) : Ref (cond b t e) m := by
  cases b with
  | true => exact h1 rfl
  | false => exact h2 rfl

theorem ofO_some {α : Type} {o : Option α} {s s' : HS} {a : α} (h : M.ofO o s = some (a, s')) : o = some a ∧ s' = s := by
  cases o with
  | none => cases h
  | some b => injection h with h; injection h with h1 h2; exact ⟨by rw [h1], h2.symm⟩
theorem pure_some {α : Type} {x a : α} {s s' : HS} (h : M.pure x s = some (a, s')) : x = a ∧ s' = s := by
  injection h with h; injection h with h1 h2; exact ⟨h1, h2.symm⟩
theorem withO_some {α β : Type} {o : Option α} {k : α → M β} {s s' : HS} {b : β} (h : M.withO o k s = some (b, s')) : ∃ a, o = some a ∧ k a s = some (b, s') := by
  cases o with
  | none => cases h
  | some a => exact ⟨a, rfl, h⟩

theorem svK_some {v : Value} {x : SV} {s s' : HS} (h : svK v s = some (x, s')) : v = slV x ∧ s' = s := by
  obtain ⟨h1, h2⟩ := ofO_some h
  exact ⟨S1.un_mk (s := .slice) h1, h2⟩
theorem bind_svK {m : M Value} {x : SV} {s s' : HS} (h : M.bind m svK s = some (x, s')) : m s = some (slV x, s') := by
  obtain ⟨v, s1, h1, h2⟩ := bind_some h
  obtain ⟨h3, h4⟩ := svK_some h2
  rw [h1, h3, h4]
theorem unInt_some {k : IntKind} {v : Value} {n : Int} {s s' : HS} (h : M.ofO (S1.un (.int k) v) s = some (n, s')) : v = .int k n ∧ s' = s := by
  obtain ⟨h1, h2⟩ := ofO_some h
  exact ⟨S1.un_mk (s := .int k) h1, h2⟩
theorem bind_unInt {k : IntKind} {m : M Value} {n : Int} {s s' : HS} (h : M.bind m (fun v => M.ofO (S1.un (.int k) v)) s = some (n, s')) : m s = some (.int k n, s') := by
  obtain ⟨v, s1, h1, h2⟩ := bind_some h
  obtain ⟨h3, h4⟩ := unInt_some h2
  rw [h1, h3, h4]

theorem sizeOK_one {ti : TI} {x : S1} (h : sizeOK ti (.one x) = true) : isAggD ti.desc = false := by
  unfold sizeOK at h
  cases e : isAggD ti.desc with
  | true => rw [e] at h; cases h
  | false => rfl
theorem sizeOK_agg {ti : TI} {l : List S1} (h : sizeOK ti (.agg l) = true) : isAggD ti.desc = true ∧ ti.size = lenL l := by
  unfold sizeOK at h
  cases e : isAggD ti.desc with
  | true => rw [e] at h; exact ⟨rfl, Nat.eq_of_beq_eq_true h⟩
  | false => rw [e] at h; cases h

theorem sizeOK_big {ti : TI} {n : Nat} (h : sizeOK ti (.big n) = true) : isAggD ti.desc = true ∧ ti.size = n := by
  unfold sizeOK at h
  cases e : isAggD ti.desc with
  | true => rw [e] at h; exact ⟨rfl, Nat.eq_of_beq_eq_true h⟩
  | false => rw [e] at h; cases h
theorem unCells_one {x : S1} {l : List Value} {y : x.Sem} (h : unCells (.one x) l = some y) : l = [x.mk y] := by
  match l, h with
  | [v], h => rw [S1.un_mk (s := x) (show x.un v = some y from h)]

theorem ref_gLoad {ti : TI} {p : Option Addr} {k : Value → Tr R} {K : Value → M R} (h : ∀ v, Ref (k v) (K v)) : Ref (gLoad ti p k) (M.bind (ptrK (loadV ti) (.pointer p)) K) := by
  unfold gLoad
  split
  · rename_i hs
    refine ref_node (fun x => (shTI ti).mk x) h fun s a s' e => ?_
    obtain ⟨ad, rfl, e'⟩ := withO_some (show M.withO p _ s = _ from e)
    obtain ⟨l, s1, e1, e2⟩ := bind_some e'
    obtain ⟨e2, e3⟩ := ofO_some e2
    subst e3
    show loadV ti ad s = _
    unfold loadV
    generalize hsh : shTI ti = sh at hs a e1 e2
    cases sh with
    | one x =>
      rw [sizeOK_one hs]
      refine bind_of e1 ?_
      rw [unCells_one e2]; rfl
    | agg ls =>
      obtain ⟨h1, h2⟩ := sizeOK_agg hs
      rw [h1]
      refine bind_of (show loadN ad ti.size s = some (l, s') from by rw [h2]; exact e1) ?_
      rw [S1.unL_mk (show S1.unL ls l = some a from e2)]; rfl
    | big n =>
      obtain ⟨h1, h2⟩ := sizeOK_big hs
      rw [h1]
      refine bind_of (show loadN ad ti.size s = some (l, s') from by rw [h2]; exact e1) ?_
      injection e2 with e2
      rw [e2]; rfl
  · exact ref_fail

theorem ref_gNil {o : Option Value} {k : Value → Tr R} {K : Value → M R} (h : ∀ v, Ref (k v) (K v)) : Ref (gNil o k) (M.bind (M.withO o nilK) K) := by
  unfold gNil
  split
  · rename_i p
    refine ref_node adrV h fun s a s' e => ?_
    obtain ⟨e1, e2⟩ := ofO_some e
    subst e1; subst e2; rfl
  · exact ref_same (fun s => rfl) h
  · exact ref_fail

theorem ref_plain {o : Op} {tm : T Value} {k : Value → Tr R} {K : Value → M R} (h : ∀ v, Ref (k v) (K v)) : Ref (gPlain o env call tm k) (M.bind (execOp o env call tm) K) := by
  unfold gPlain
  cases hp : plainOp o env with
  | false => exact ref_fail
  | true =>
    have hc : cls o env = .pure := by
      unfold plainOp at hp
      cases e : cls o env <;> rw [e] at hp <;> first | rfl | cases hp
    show Ref (pureK (execOp o env call tm s0) k) _
    have hq := quiet_exec (env := env) (call := call) o tm (by rw [hc]; rfl)
    rw [reads_pure o tm hc] at hq
    cases e : execOp o env call tm s0 with
    | none => exact ref_fail
    | some q =>
      obtain ⟨v, s1⟩ := q
      refine ref_same (v := v) (fun s => ?_) h
      obtain ⟨r, h1, h2⟩ := hq s0 s (fun x hx => by cases hx)
      rw [h2]
      rw [h1] at e
      cases r with
      | none => cases e
      | some u => injection e with e; injection e with e1 e2; rw [← e1]; rfl

theorem ref_gBin {op : BinOp} {t yt : TypeId} {ti : TI} {x y : Operand} {tm : T Value} (ht : env.ty.get t = some ti) {k : Value → Tr R} {K : Value → M R} (h : ∀ v, Ref (k v) (K v)) :
    Ref (gBin op ti x y env tm (gPlain (.binOp op t x y yt) env call tm k) k) (M.bind (execOp (.binOp op t x y yt) env call tm) K) := by
  have hx : execOp (.binOp op t x y yt) env call tm = M.withO (ev x tm) fun a => M.withO (ev y tm) fun b => M.ofO (binV ti op a b) := by
    show M.withO (env.ty.get t) _ = _
    rw [ht]; rfl
  have har : op ≠ .eql → op ≠ .neq → Ref (intT (ev x tm) fun ik m => intT (ev y tm) fun jk n => .op (arM op ik m jk n) fun r => k (.int ik r)) (M.bind (execOp (.binOp op t x y yt) env call tm) K) := by
    intro _ _
    rw [hx]
    unfold intT
    split
    · rename_i ik m hm
      rw [hm]
      split
      · rename_i jk n hn
        rw [hn]
        exact ref_node (fun r => .int ik r) h fun s a s' e => bind_unInt e
      · exact ref_fail
    · exact ref_fail
  have hp : ev y tm = some (.pointer none) → Ref (gNilP op ti (ev x tm) k) (M.bind (execOp (.binOp op t x y yt) env call tm) K) := by
    intro hy
    rw [hx, hy]
    unfold gNilP
    split
    · rename_i e hd
      split
      · rename_i p hp
        rw [hp]
        have he : eqlV ti (.pointer p) (.pointer none) = some (isNil p) := by
          unfold eqlV
          rw [hd]
          cases p <;> rfl
        split
        · refine ref_same (v := .bool (isNil p)) (fun s => ?_) h
          show M.ofO (match eqlV ti (.pointer p) (.pointer none) with | some b => ofB b | none => none) s = _
          rw [he]; rfl
        · refine ref_same (v := .bool (!isNil p)) (fun s => ?_) h
          show M.ofO (match eqlV ti (.pointer p) (.pointer none) with | some b => ofB (!b) | none => none) s = _
          rw [he]; rfl
        · exact ref_fail
      · exact ref_fail
    · exact ref_fail
  have hs : ev y tm = some (.slice none 0 0) → Ref (gNilS op ti (ev x tm) k) (M.bind (execOp (.binOp op t x y yt) env call tm) K) := by
    intro hy
    rw [hx, hy]
    unfold gNilS
    split
    · rename_i e hd
      split
      · rename_i p n c hp
        rw [hp]
        have he : eqlV ti (.slice p n c) (.slice none 0 0) = some (isNil p) := by
          unfold eqlV
          rw [hd]
          cases p <;> rfl
        split
        · refine ref_same (v := .bool (isNil p)) (fun s => ?_) h
          show M.ofO (match eqlV ti (.slice p n c) (.slice none 0 0) with | some b => ofB b | none => none) s = _
          rw [he]; rfl
        · refine ref_same (v := .bool (!isNil p)) (fun s => ?_) h
          show M.ofO (match eqlV ti (.slice p n c) (.slice none 0 0) with | some b => ofB (!b) | none => none) s = _
          rw [he]; rfl
        · exact ref_fail
      · exact ref_fail
    · exact ref_fail
  unfold gBin
  split
  · split
    · rename_i hy; exact hp hy
    · rename_i hy; exact hs hy
    · exact ref_fail
  · split
    · exact har (by decide) (by decide)
    · exact har (by decide) (by decide)
    · split
      · exact ref_plain h
      · exact har (by decide) (by decide)
    · split
      · exact ref_plain h
      · exact har (by decide) (by decide)
    · exact ref_plain h
end
end Go.Ax
