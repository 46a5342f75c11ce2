/- Shallow code out of the executor's: the generator for code and functions, definitions.
Conditions: none. -/
import Derived.Test.YtjlhclmgjdabfaaGreatAxV
import Derived.Test.YtjlhclmgjdabfaaGreatAxE

namespace Go.Ax
set_option linter.unusedSimpArgs false
set_option linter.unusedSectionVars false
set_option linter.unusedVariables false
noncomputable section

/-! ### Sets of temporaries as bits -/

def setB (m t : Nat) : Nat := Nat.lor m (Nat.pow 2 t)
def clrB (m t : Nat) : Nat := match bit m t with
  | true => Nat.sub m (Nat.pow 2 t)
  | false => m
def useL (l : List Tmp) (m : Nat) : Nat := List.rec (motive := fun _ => Nat) m (fun t _ m => setB m t) l
def dstB (d : Option Tmp) (m : Nat) : Nat := match d with
  | some d => clrB m d
  | none => m
def setD (d : Option Tmp) (m : Nat) : Nat := match d with
  | some d => setB m d
  | none => m
def liveOps (ops l : List Oper) (m : Nat) : Nat := List.rec (motive := fun _ => Nat) m (fun o _ m => useL (looks ops o) (dstB o.dst m)) l
/-- Whose slots are written. -/
def wrOps (l : List Oper) : Nat := List.rec (motive := fun _ => Nat) 0 (fun o _ m => setD o.dst m) l
def wrC (c : Code) : Nat := Code.rec (motive := fun _ => Nat)
  (skip := 0) (region := fun _ ops _ => wrOps ops.toList) (seq := fun _ _ a b => Nat.lor a b) (cond := fun _ _ _ a b => Nat.lor a b) (block := fun _ _ a => a) (loop := fun _ a => a)
  (rangeFunc := fun _ _ _ _ _ _ => 0) (exit := fun _ => 0) (scope := fun _ a => a) (label := fun _ => 0) (goto := fun _ => 0) (ret := 0) (refuse := fun _ => 0) c

def dsts (l : List Oper) : List Tmp := List.rec (motive := fun _ => List Tmp) [] (fun o _ r => match o.dst with
  | some d => d :: r
  | none => r) l
def wrL (c : Code) : List Tmp := Code.rec (motive := fun _ => List Tmp)
  (skip := []) (region := fun _ ops _ => dsts ops.toList) (seq := fun _ _ a b => appL a b) (cond := fun _ _ _ a b => appL a b) (block := fun _ _ a => a) (loop := fun _ a => a)
  (rangeFunc := fun _ _ _ _ _ _ => []) (exit := fun _ => []) (scope := fun _ a => a) (label := fun _ => []) (goto := fun _ => []) (ret := []) (refuse := fun _ => []) c

abbrev Outs := AExit → Nat
def sameEx : AExit → AExit → Bool
  | .normal, .normal => true
  | .ret, .ret => true
  | .exit i, .exit j => Nat.beq i j
  | _, _ => false
def outsN (outs : Outs) (m : Nat) : Outs := fun e => match e with
  | .normal => m
  | e => outs e
def outsB (outs : Outs) (id : Nat) : Outs := fun e => match e with
  | .exit i => match Nat.beq i id with
    | true => outs .normal
    | false => outs (.exit i)
  | e => outs e
def opU (x : Operand) (m : Nat) : Nat := match x with
  | .tmp t => setB m t
  | _ => m
/-- What is read later on, ahead of the code. -/
def liveC (c : Code) : Outs → Nat := Code.rec (motive := fun _ => Outs → Nat)
  (skip := fun outs => outs .normal) (region := fun _ ops _ outs => liveOps ops.toList ops.toList (outs .normal)) (seq := fun _ _ a b outs => a (outsN outs (b outs)))
  (cond := fun c _ _ a b outs => opU c (Nat.lor (a outs) (b outs))) (block := fun id _ a outs => a (outsB outs id)) (loop := fun _ a outs => a (outsN outs (a (outsN outs (a (outsN outs 0))))))
  (rangeFunc := fun _ _ _ _ _ _ outs => outs .normal) (exit := fun id outs => outs (.exit id)) (scope := fun _ a => a) (label := fun _ _ => 0) (goto := fun _ _ => 0) (ret := fun outs => outs .ret) (refuse := fun _ _ => 0) c

def memEx (e : AExit) (l : List AExit) : Bool := List.rec (motive := fun _ => Bool) false (fun x _ b => match sameEx e x with
  | true => true
  | false => b) l
def unionEx (l m : List AExit) : List AExit := List.rec (motive := fun _ => List AExit) m (fun x _ r => match memEx x m with
  | true => r
  | false => x :: r) l
def dropEx (e : AExit) (l : List AExit) : List AExit := List.rec (motive := fun _ => List AExit) [] (fun x _ r => match sameEx e x with
  | true => r
  | false => x :: r) l
/-- The ways out that are not the end. -/
def exC (c : Code) : List AExit := Code.rec (motive := fun _ => List AExit)
  (skip := []) (region := fun _ _ _ => []) (seq := fun _ _ a b => unionEx a b) (cond := fun _ _ _ a b => unionEx a b) (block := fun id _ a => dropEx (.exit id) a) (loop := fun _ a => a)
  (rangeFunc := fun _ _ _ _ _ _ => []) (exit := fun id => [.exit id]) (scope := fun _ a => a) (label := fun _ => []) (goto := fun _ => []) (ret := [.ret]) (refuse := fun _ => []) c
/-- How many ways lead to an exit; to the end. -/
def cntE (id : Nat) (c : Code) : Nat := Code.rec (motive := fun _ => Nat)
  (skip := 0) (region := fun _ _ _ => 0) (seq := fun _ _ a b => Nat.add a b) (cond := fun _ _ _ a b => Nat.add a b) (block := fun _ _ a => a) (loop := fun _ a => a)
  (rangeFunc := fun _ _ _ _ _ _ => 0) (exit := fun i => match Nat.beq i id with
    | true => 1
    | false => 0) (scope := fun _ a => a) (label := fun _ => 0) (goto := fun _ => 0) (ret := 0) (refuse := fun _ => 0) c
def npC (c : Code) : Nat := Code.rec (motive := fun _ => Nat)
  (skip := 1) (region := fun _ _ _ => 1) (seq := fun _ _ a b => Nat.mul a b) (cond := fun _ _ _ a b => Nat.add a b) (block := fun id c a => Nat.add a (cntE id c)) (loop := fun _ _ => 0)
  (rangeFunc := fun _ _ _ _ _ _ => 1) (exit := fun _ => 0) (scope := fun _ a => a) (label := fun _ => 0) (goto := fun _ => 0) (ret := 0) (refuse := fun _ => 0) c
def szC (c : Code) : Nat := Code.rec (motive := fun _ => Nat)
  (skip := 0) (region := fun _ ops _ => lenL ops.toList) (seq := fun _ _ a b => Nat.add a b) (cond := fun _ _ _ a b => Nat.succ (Nat.add a b)) (block := fun _ _ a => a) (loop := fun _ a => Nat.add a 5)
  (rangeFunc := fun _ _ _ _ _ _ => 5) (exit := fun _ => 0) (scope := fun _ a => a) (label := fun _ => 0) (goto := fun _ => 0) (ret := 0) (refuse := fun _ => 0) c
/-- Ways that meet again are cut here. -/
def cutB (a b : Code) : Bool := match Nat.ble 2 (npC a) with
  | true => Nat.ble 2 (szC b)
  | false => false

/-! ### What is handed over at a cut -/

abbrev LV := List (Tmp × S2)
def SemV : LV → Type
  | [] => Unit
  | x :: l => x.2.Sem × SemV l
def getV : (l : LV) → T Value → Option (SemV l)
  | [] => fun _ => some ()
  | x :: l => fun tm => match tm.get x.1 with
    | none => none
    | some v => pairO (x.2.un v) (getV l tm)
def putV : (l : LV) → SemV l → T Value → T Value
  | [] => fun _ tm => tm
  | x :: l => fun p tm => putV l p.2 (tm.set x.1 (x.2.mk p.1))
def SemX : List (AExit × LV) → Type
  | [] => Empty
  | e :: l => match l with
    | [] => SemV e.2
    | _ :: _ => SemV e.2 ⊕ SemX l
def mapO {α β : Type} (f : α → β) (o : Option α) : Option β := match o with
  | none => none
  | some a => some (f a)
def injX : (l : List (AExit × LV)) → AExit → T Value → Option (SemX l)
  | [] => fun _ _ => none
  | e :: [] => fun x tm => match sameEx e.1 x with
    | true => getV e.2 tm
    | false => none
  | e :: f :: l => fun x tm => match sameEx e.1 x with
    | true => mapO Sum.inl (getV e.2 tm)
    | false => mapO Sum.inr (injX (f :: l) x tm)
def caseX {R : Type} : (l : List (AExit × LV)) → SemX l → (AExit → T Value → Tr R) → T Value → Tr R
  | [] => fun _ _ _ => .fail
  | e :: [] => fun x k tm => k e.1 (putV e.2 x tm)
  | e :: f :: l => fun x k tm => cs x (fun a => k e.1 (putV e.2 a tm)) fun b => caseX (f :: l) b k tm

/-- The temporaries of a set. -/
def bitsL (m : Nat) (n : Nat) : List Tmp := Nat.rec (motive := fun _ => List Tmp → List Tmp) (fun l => l) (fun t f l => match bit m t with
  | true => f (t :: l)
  | false => f l) n []
def shapes (st : T S2) (l : List Tmp) : LV := List.rec (motive := fun _ => LV) [] (fun t _ r => match st.get t with
  | some s => (t, s) :: r
  | none => r) l
def delL (l : List Tmp) (tm : T Value) : T Value := List.rec (motive := fun _ => T Value → T Value) (fun tm => tm) (fun t _ f tm => f (match tm.get t with
  | some _ => tm.del t
  | none => tm)) l tm
def exitsOf (st : T S2) (n : Nat) (w : Nat) (outs : Outs) (l : List AExit) : List (AExit × LV) := List.rec (motive := fun _ => List (AExit × LV)) [] (fun e _ r => (e, shapes st (bitsL (Nat.land (outs e) w) n)) :: r) l

/-- What stands for all. -/
structure GE where
  shT : Nat → Option S3
  st : T S2
  n : Nat
  env : Env
  call : CallH
  lf : Nat

def gCond {R : Type} (c : Operand) (tm : T Value) (yes no : T Value → Tr R) : Tr R := match c with
  | .tmp t => match tm.get t with
    | some (.bool b) => cond b (yes (tm.set t (.bool true))) (no (tm.set t (.bool false)))
    | _ => .fail
  | .const (.bool b) => cond b (yes tm) (no tm)
  | _ => .fail

def isNormal (e : AExit) : Bool := match e with
  | .normal => true
  | _ => false
def contN {R : Type} (b : T Value → Tr R) (k : AExit → T Value → Tr R) (e : AExit) (tm : T Value) : Tr R := match e with
  | .normal => b tm
  | .exit i => k (.exit i) tm
  | .ret => k .ret tm
def blockE (id : Nat) (e : AExit) : AExit := match e with
  | .exit i => match Nat.beq i id with
    | true => .normal
    | false => .exit i
  | e => e
def exOf (c : Code) (l : List AExit) : List AExit := match npC c with
  | 0 => l
  | _ => .normal :: l

def gCut {R : Type} (X : List (AExit × LV)) (W : List Tmp) (a : (AExit → T Value → Tr (SemX X)) → Tr (SemX X)) (tm : T Value) (k : AExit → T Value → Tr R) : Tr R :=
  .bind (a fun e tm => wO (injX X e tm) .ret) fun x => caseX X x k (delL W tm)
def gLoop {R : Type} (lf : Nat) (L : LV) (X : List (AExit × LV)) (W : List Tmp) (a : T Value → (AExit → T Value → Tr (SemV L ⊕ SemX X)) → Tr (SemV L ⊕ SemX X)) (tm : T Value) (k : AExit → T Value → Tr R) : Tr R :=
  wO (getV L tm) fun x0 => .loop (fun x => a (putV L x (delL W tm)) fun e tm => match e with
    | .normal => wO (getV L tm) fun y => .ret (.inl y)
    | .exit i => wO (injX X (.exit i) tm) fun y => .ret (.inr y)
    | .ret => wO (injX X .ret tm) fun y => .ret (.inr y)) lf x0 fun x => caseX X x k (delL W tm)

abbrev GC := ∀ R : Type, GE → Outs → T Value → (AExit → T Value → Tr R) → Tr R

def gSeq (ca cb : Code) (a b : GC) : GC := fun R G outs tm k => match cutB ca cb with
  | false => a R G (outsN outs (liveC cb outs)) tm (contN (fun tm => b R G outs tm k) k)
  | true => gCut (exitsOf G.st G.n (wrC ca) (outsN outs (liveC cb outs)) (exOf ca (exC ca))) (wrL ca) (a _ G (outsN outs (liveC cb outs)) tm) tm (contN (fun tm => b R G outs tm k) k)
def gLoopC (ca : Code) (a : GC) : GC := fun R G outs tm k =>
  (fun X => gLoop G.lf (shapes G.st (bitsL (Nat.land X (wrC ca)) G.n)) (exitsOf G.st G.n (wrC ca) outs (exC ca)) (wrL ca) (a _ G (outsN outs X)) tm k) (liveC (.loop ca) outs)

def gC (c : Code) : GC := Code.rec (motive := fun _ => GC)
  (skip := fun R G outs tm k => k .normal tm)
  (region := fun _ ops d R G outs tm k => gRegion G.shT ops.toList d G.env G.call tm (k .normal))
  (seq := gSeq)
  (cond := fun c _ _ a b R G outs tm k => gCond c tm (fun tm => a R G outs tm k) (fun tm => b R G outs tm k))
  (block := fun id _ a R G outs tm k => a R G (outsB outs id) tm fun e tm => k (blockE id e) tm)
  (loop := gLoopC)
  (rangeFunc := fun _ _ _ _ _ _ _ _ _ _ _ => .fail)
  (exit := fun id R G outs tm k => k (.exit id) tm)
  (scope := fun _ _ _ _ _ _ _ => .fail)
  (label := fun _ _ _ _ _ _ => .fail)
  (goto := fun _ _ _ _ _ _ => .fail)
  (ret := fun R G outs tm k => k .ret tm)
  (refuse := fun _ _ _ _ _ _ => .fail) c

/-! ### Functions -/

def s2Of (P : Program) (t : Nat) : Option S2 := match tiOf P false t with
  | some ti => some (shTI ti)
  | none => none
def s2All (P : Program) : List Nat → Option (List S2)
  | [] => some []
  | t :: l => match s2Of P t with
    | none => none
    | some s => match s2All P l with
      | none => none
      | some r => some (s :: r)
/-- The shape of a type. -/
def s3Of (P : Program) (t : Nat) : Option S3 := match P.underlying t with
  | some (.tuple es) => match s2All P es.toList with
    | some l => some (.tup l)
    | none => none
  | _ => match s2Of P t with
    | some s => some (.v s)
    | none => none

def shOps (shT : Nat → Option S3) (l : List Oper) : T S2 → T S2 := List.rec (motive := fun _ => T S2 → T S2) (fun st => st) (fun o _ f st => f (match o.dst with
  | some d => match shT o.type with
    | some (.v s) => st.set d s
    | _ => st
  | none => st)) l
def shC (shT : Nat → Option S3) (c : Code) : T S2 → T S2 := Code.rec (motive := fun _ => T S2 → T S2)
  (skip := fun st => st) (region := fun _ ops _ => shOps shT ops.toList) (seq := fun _ _ a b st => b (a st)) (cond := fun _ _ _ a b st => b (a st)) (block := fun _ _ a => a) (loop := fun _ a => a)
  (rangeFunc := fun _ _ _ _ _ _ st => st) (exit := fun _ st => st) (scope := fun _ a => a) (label := fun _ st => st) (goto := fun _ st => st) (ret := fun st => st) (refuse := fun _ st => st) c
def shPs (shT : Nat → Option S3) : List TypeId → Nat → T S2 → T S2
  | [] => fun _ st => st
  | t :: l => fun i st => shPs shT l (Nat.succ i) (match shT t with
    | some (.v s) => st.set i s
    | _ => st)

def resU (rs : List ResultVar) : Nat := List.rec (motive := fun _ => Nat) 0 (fun r _ m => match r with
  | .tmp t => setB m t
  | .cell a _ => setB m a) rs

def gRes (env : Env) (tm : T Value) : List ResultVar → (List Value → Tr Value) → Tr Value
  | [] => fun k => k []
  | r :: l => fun k => match r with
    | .tmp t => wO (tm.get t) fun v => gRes env tm l fun vs => k (v :: vs)
    | .cell a t => wO (env.ty.get t) fun ti => ptrT (tm.get a) fun p => gLoad ti p fun v => gRes env tm l fun vs => k (v :: vs)
def tupV (l : List Value) : Value := match l with
  | [v] => v
  | l => .tuple ⟨l⟩
def gEnd (env : Env) (rs : List ResultVar) (e : AExit) (tm : T Value) : Tr Value := match e with
  | .normal => gRes env tm rs fun vs => .ret (tupV vs)
  | .ret => gRes env tm rs fun vs => .ret (tupV vs)
  | .exit _ => .fail

def gFn (shT : Nat → Option S3) (env : Env) (call : CallH) (lf : Nat) (args : List Value) (fn : Func) : Tr Value := match fn.body with
  | some c => match Nat.ble (lenL args) fn.ntmps with
    | true => gC c Value { shT := shT, st := shC shT c (shPs shT fn.params.toList 0 .nil), n := fn.ntmps, env := env, call := call, lf := lf } (fun _ => resU fn.results.toList) (T.ofList args) (gEnd env fn.results.toList)
    | false => .fail
  | none => .fail
end
end Go.Ax
