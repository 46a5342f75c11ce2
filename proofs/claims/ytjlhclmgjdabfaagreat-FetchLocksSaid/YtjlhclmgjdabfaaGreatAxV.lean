/- Shallow code out of the executor's: a generator of typed interaction trees, definitions.
Conditions: none. -/
import Derived.Test.YtjlhclmgjdabfaaGreatAxT
namespace Go.Ax
set_option linter.unusedSimpArgs false
set_option linter.unusedSectionVars false
set_option linter.unusedVariables false
noncomputable section

/-! ### Shapes -/

inductive S1 where
  | int (k : IntKind) | bool | str | ptr | slice | any
inductive S2 where
  | one (x : S1) | agg (l : List S1) | big (n : Nat)
inductive S3 where
  | v (x : S2) | tup (l : List S2)

/-- A slice's header. -/
structure SV where
  a : Option Addr
  n : Nat
  c : Nat

def S1.Sem : S1 → Type
  | .int _ => Int
  | .bool => Bool
  | .str => ByteArray
  | .ptr => Option Addr
  | .slice => SV
  | .any => Value
def S1.SemL : List S1 → Type
  | [] => Unit
  | x :: l => x.Sem × S1.SemL l
def S2.Sem : S2 → Type
  | .one x => x.Sem
  | .agg l => S1.SemL l
  | .big _ => List Value
def S2.SemL : List S2 → Type
  | [] => Unit
  | x :: l => x.Sem × S2.SemL l
def S3.Sem : S3 → Type
  | .v x => x.Sem
  | .tup l => S2.SemL l

def S1.mk : (s : S1) → s.Sem → Value
  | .int k => fun n => .int k n
  | .bool => fun b => .bool b
  | .str => fun b => .string b
  | .ptr => fun p => .pointer p
  | .slice => fun v => .slice v.a v.n v.c
  | .any => fun v => v
def S1.mkL : (l : List S1) → S1.SemL l → List Value
  | [] => fun _ => []
  | x :: l => fun p => x.mk p.1 :: S1.mkL l p.2
def S2.mk : (s : S2) → s.Sem → Value
  | .one x => x.mk
  | .agg l => fun p => .agg ⟨S1.mkL l p⟩
  | .big _ => fun l => .agg ⟨l⟩
def S2.mkL : (l : List S2) → S2.SemL l → List Value
  | [] => fun _ => []
  | x :: l => fun p => x.mk p.1 :: S2.mkL l p.2
def S3.mk : (s : S3) → s.Sem → Value
  | .v x => x.mk
  | .tup l => fun p => .tuple ⟨S2.mkL l p⟩

def S1.un : (s : S1) → Value → Option s.Sem
  | .int k => fun v => match v with
    | .int k' n => match nEq k k' with
      | true => some n
      | false => none
    | _ => none
  | .bool => fun v => match v with
    | .bool b => some b
    | _ => none
  | .str => fun v => match v with
    | .string b => some b
    | _ => none
  | .ptr => fun v => match v with
    | .pointer p => some p
    | _ => none
  | .slice => fun v => match v with
    | .slice a n c => some ⟨a, n, c⟩
    | _ => none
  | .any => fun v => some v
def pairO {α β : Type} (a : Option α) (b : Option β) : Option (α × β) := match a with
  | none => none
  | some a => match b with
    | none => none
    | some b => some (a, b)
def S1.unL : (l : List S1) → List Value → Option (S1.SemL l)
  | [] => fun vs => match vs with
    | [] => some ()
    | _ :: _ => none
  | x :: l => fun vs => match vs with
    | [] => none
    | v :: vs => pairO (x.un v) (S1.unL l vs)
def S2.un : (s : S2) → Value → Option s.Sem
  | .one x => x.un
  | .agg l => fun v => match v with
    | .agg cs => S1.unL l cs.toList
    | _ => none
  | .big _ => fun v => match v with
    | .agg cs => some cs.toList
    | _ => none
def S2.unL : (l : List S2) → List Value → Option (S2.SemL l)
  | [] => fun vs => match vs with
    | [] => some ()
    | _ :: _ => none
  | x :: l => fun vs => match vs with
    | [] => none
    | v :: vs => pairO (x.un v) (S2.unL l vs)
def S3.un : (s : S3) → Value → Option s.Sem
  | .v x => x.un
  | .tup l => fun v => match v with
    | .tuple vs => S2.unL l vs.toList
    | _ => none

theorem pairO_some {α β : Type} {a : Option α} {b : Option β} {p : α × β} (h : pairO a b = some p) : a = some p.1 ∧ b = some p.2 := by
  cases a with
  | none => cases h
  | some a => cases b with
    | none => cases h
    | some b => injection h with h; subst h; exact ⟨rfl, rfl⟩

theorem S1.un_mk : ∀ {s : S1} {v : Value} {x : s.Sem}, s.un v = some x → v = s.mk x := by
  intro s v x h
  cases s with
  | int k =>
    cases v with
    | int k' n =>
      have h' : (match nEq k k' with | true => some n | false => none) = some x := h
      cases e : nEq k k' with
      | true =>
        rw [e] at h'
        injection h' with h'
        rw [nEq_iff] at e
        subst e; subst h'; rfl
      | false => rw [e] at h'; cases h'
    | _ => cases h
  | bool => cases v with
    | bool b => injection h with h; subst h; rfl
    | _ => cases h
  | str => cases v with
    | string b => injection h with h; subst h; rfl
    | _ => cases h
  | ptr => cases v with
    | pointer b => injection h with h; subst h; rfl
    | _ => cases h
  | slice => cases v with
    | slice a n c => injection h with h; subst h; rfl
    | _ => cases h
  | any => injection h
theorem S1.unL_mk : ∀ {l : List S1} {vs : List Value} {x : S1.SemL l}, S1.unL l vs = some x → vs = S1.mkL l x
  | [], [], _, _ => rfl
  | [], _ :: _, _, h => by cases h
  | _ :: _, [], _, h => by cases h
  | s :: l, v :: vs, x, h => by
    obtain ⟨h1, h2⟩ := pairO_some (show pairO (s.un v) (S1.unL l vs) = some x from h)
    show v :: vs = s.mk x.1 :: S1.mkL l x.2
    rw [S1.un_mk h1, ← S1.unL_mk h2]
theorem S2.un_mk {s : S2} {v : Value} {x : s.Sem} (h : s.un v = some x) : v = s.mk x := by
  cases s with
  | one y => exact S1.un_mk h
  | agg l => cases v with
    | agg cs => exact congrArg (fun l => Value.agg ⟨l⟩) (S1.unL_mk (show S1.unL l cs.toList = some x from h))
    | _ => cases h
  | big n => cases v with
    | agg cs => injection h with h; subst h; rfl
    | _ => cases h
theorem S2.unL_mk : ∀ {l : List S2} {vs : List Value} {x : S2.SemL l}, S2.unL l vs = some x → vs = S2.mkL l x
  | [], [], _, _ => rfl
  | [], _ :: _, _, h => by cases h
  | _ :: _, [], _, h => by cases h
  | s :: l, v :: vs, x, h => by
    obtain ⟨h1, h2⟩ := pairO_some (show pairO (s.un v) (S2.unL l vs) = some x from h)
    show v :: vs = s.mk x.1 :: S2.mkL l x.2
    rw [S2.un_mk h1, ← S2.unL_mk h2]
theorem S3.un_mk {s : S3} {v : Value} {x : s.Sem} (h : s.un v = some x) : v = s.mk x := by
  cases s with
  | v y => exact S2.un_mk h
  | tup l => cases v with
    | tuple cs => exact congrArg (fun l => Value.tuple ⟨l⟩) (S2.unL_mk (show S2.unL l cs.toList = some x from h))
    | _ => cases h

/-! ### Trees -/

inductive Tr : Type → Type 1 where
  | ret {α : Type} (a : α) : Tr α
  | fail {α : Type} : Tr α
  | op {α β : Type} (m : M β) (k : β → Tr α) : Tr α
  | bind {α β : Type} (t : Tr β) (k : β → Tr α) : Tr α
  | loop {α β γ : Type} (body : β → Tr (β ⊕ γ)) (n : Nat) (init : β) (k : γ → Tr α) : Tr α

/-- A case of two. -/
def cs {α β : Type} {R : Type 1} (x : α ⊕ β) (f : α → R) (g : β → R) : R := Sum.rec f g x

def iterK {β γ : Type} (again : β → M γ) (r : β ⊕ γ) : M γ := Sum.rec again M.pure r
def iterS {β γ : Type} (f : β → M (β ⊕ γ)) (n : Nat) : β → M γ :=
  Nat.rec (motive := fun _ => β → M γ) (fun _ => M.fail) (fun _ r x => M.bind (f x) (iterK r)) n

def Tr.run {α : Type} (t : Tr α) : M α := Tr.rec (motive := fun α _ => M α)
  (ret := fun a => M.pure a) (fail := M.fail) (op := fun m _ ih => M.bind m ih) (bind := fun _ _ t k => M.bind t k)
  (loop := fun _ n init _ b k => M.bind (iterS b n init) k) t

theorem run_ret {α : Type} (a : α) : (Tr.ret a).run = M.pure a := rfl
theorem run_fail {α : Type} : (Tr.fail : Tr α).run = M.fail := rfl
theorem run_op {α β : Type} (m : M β) (k : β → Tr α) : (Tr.op m k).run = M.bind m fun x => (k x).run := rfl
theorem run_bind {α β : Type} (t : Tr β) (k : β → Tr α) : (Tr.bind t k).run = M.bind t.run fun x => (k x).run := rfl
theorem run_loop {α β γ : Type} (body : β → Tr (β ⊕ γ)) (n : Nat) (init : β) (k : γ → Tr α) :
    (Tr.loop body n init k).run = M.bind (iterS (fun x => (body x).run) n init) fun x => (k x).run := rfl
theorem run_cond {α : Type} (b : Bool) (t e : Tr α) : (cond b t e).run = cond b t.run e.run := by cases b <;> rfl

/-! ### Steps of the trees -/

def unCells : (s : S2) → List Value → Option s.Sem
  | .one x => fun vs => match vs with
    | [v] => x.un v
    | _ => none
  | .agg l => S1.unL l
  | .big _ => fun vs => some vs
def S2.size : S2 → Nat
  | .one _ => 1
  | .agg l => lenL l
  | .big n => n
def ldM (s : S2) (p : Option Addr) : M s.Sem := M.withO p fun a => M.bind (loadN a s.size) fun l => M.ofO (unCells s l)
def stM (vs : List Value) (p : Option Addr) : M Unit := M.withO p fun a => storeN a vs
def nilM (p : Option Addr) : M Addr := M.ofO p
def newM (l : List Value) : M Nat := newCells 1 true (lenL l) l
def bsK (es n : Nat) (o : Option (T Value)) : M Nat := match o with
  | none => M.fail
  | some cells => newObj (.cells n es true false cells)
/-- A new slice of n elements, the given ones set. -/
def bsM (es n : Nat) (zero : List Value) (ps : List (Nat × Value)) : M Nat := match Nat.ble (Nat.mul n es) 10000 with
  | true => bsK es (Nat.mul n es) (fillL (elemPl es) (Nat.mul n es) ps (T.ofList (repL zero n)))
  | false => M.fail
def svK (v : Value) : M SV := M.ofO (S1.un .slice v)
def mkM (es bytes : Nat) (zero : List Value) (l c : Value) : M SV := M.bind (makeK ⟨.bool, es, bytes, zero, false⟩ l c) svK
/-- A part of an array, of a slice. -/
def slA (es n : Nat) (p : Option Addr) (lo hi mx : Option Value) : M SV := M.withO p fun a => M.bind (sliceRes es a (bounds n n lo hi mx)) svK
def slS (es : Nat) (v : SV) (lo hi mx : Option Value) : M SV :=
  Option.rec (motive := fun _ => M SV) (M.bind (sliceNil (bounds v.n v.c lo hi mx)) svK)
    (fun a => M.bind (M.bind (getObj a.block) (sliceS es a (bounds v.n v.c lo hi mx))) svK) v.a
def fldM (off : Nat) (p : Option Addr) : M Addr := M.withO p fun a => M.pure (addA a off)
def adK (v : Value) : M Addr := match v with
  | .pointer (some a) => M.pure a
  | _ => M.fail
def ixP (es n : Nat) (p : Option Addr) (k : IntKind) (i : Int) : M Addr := M.withO p fun a => M.bind (idxAddr es n (.int k i) a) adK
def ty2 (s : S2) (m : M Value) : M s.Sem := M.bind m fun v => M.ofO (s.un v)
def ty3 (s : S3) (m : M Value) : M s.Sem := M.bind m fun v => M.ofO (s.un v)
/-- A part of an aggregate's value. -/
def fdM (s : S2) (off : Nat) (l : List Value) : M s.Sem := M.ofO (unCells s (takeL s.size (dropL off l)))
/-- An element of an array's value. -/
def ixA (s : S2) (n es : Nat) (l : List Value) (i : Int) : M s.Sem := match i with
  | .ofNat i => match Nat.blt i n with
    | true => M.ofO (unCells s (takeL s.size (dropL (Nat.mul i es) l)))
    | false => M.fail
  | _ => M.fail
def ixS (b : ByteArray) (i : Int) : M Int := match i with
  | .ofNat i => match nthL b.data.toList i with
    | some c => M.pure (Int.ofNat c.toNat)
    | none => M.fail
  | _ => M.fail
/-- An operation on integers that may fail. -/
def arM (op : BinOp) (k : IntKind) (x : Int) (k' : IntKind) (y : Int) : M Int := M.bind (M.ofO (binII op k x k' y)) fun v => M.ofO (S1.un (.int k) v)
def apM (es bytes : Nat) (x y : Value) : M SV := M.bind (appendV es bytes x y) svK
def cpM (es : Nat) (x y : Value) : M Int :=
  M.bind (M.withO (lenV x) fun d => M.withO (lenV y) fun s => force (minN s d) fun n => M.bind (firstN es n y) (copyTo n x)) fun v => M.ofO (S1.un (.int .i64) v)
def clM (zero : List Value) (v : Value) : M Unit := M.bind (clearV ⟨.bool, 0, 0, zero, false⟩ v) fun _ => M.pure ()
def begW : M (Nat × List Nat) := fun s => some ((s.c, s.log), { h := s.h, c := s.c, log := [] })
def endW (log : List Nat) : M (List Nat) := fun s => some (s.log, { h := s.h, c := s.c, log := appL s.log log })

def minI (a b : Int) : Int := cond (iLt b a) b a
def maxI (a b : Int) : Int := cond (iLt a b) b a

/-! ### The generator: operations -/

def defd (tm : T Value) : List Operand → Bool
  | [] => true
  | x :: l => match x with
    | .tmp t => match tm.get t with
      | some _ => defd tm l
      | none => false
    | _ => defd tm l

def sh1 : Value → S1
  | .int k _ => .int k
  | .bool _ => .bool
  | .string _ => .str
  | .pointer _ => .ptr
  | .slice _ _ _ => .slice
  | _ => .any
def shTI (ti : TI) : S2 := match isAggD ti.desc with
  | true => match Nat.blt 12 (lenL ti.zero) with
    | true => .big ti.size
    | false => .agg (ti.zero.map sh1)
  | false => match ti.zero with
    | [z] => .one (sh1 z)
    | _ => .one .any

section
variable {R : Type}

def wO {α : Type} (o : Option α) (k : α → Tr R) : Tr R := match o with
  | none => .fail
  | some a => k a
def pureK (o : Option (Value × HS)) (k : Value → Tr R) : Tr R := match o with
  | none => .fail
  | some (v, _) => k v
def adrV (a : Addr) : Value := .pointer (some a)
def slV (v : SV) : Value := .slice v.a v.n v.c

def ptrT (v : Option Value) (k : Option Addr → Tr R) : Tr R := match v with
  | some (.pointer p) => k p
  | _ => .fail
def intT (v : Option Value) (k : IntKind → Int → Tr R) : Tr R := match v with
  | some (.int ik n) => k ik n
  | _ => .fail
def sizeOK (ti : TI) (s : S2) : Bool := match s with
  | .one _ => match isAggD ti.desc with
    | true => false
    | false => true
  | .agg l => match isAggD ti.desc with
    | true => Nat.beq ti.size (lenL l)
    | false => false
  | .big n => match isAggD ti.desc with
    | true => Nat.beq ti.size n
    | false => false
def gLoad (ti : TI) (p : Option Addr) (k : Value → Tr R) : Tr R := match sizeOK ti (shTI ti) with
  | true => .op (ldM (shTI ti) p) fun x => k ((shTI ti).mk x)
  | false => .fail
def gStore (ti : TI) (v : Value) (p : Option Addr) (k : Value → Tr R) : Tr R := match Nat.beq (lenL (cellsOf v)) ti.size with
  | true => .op (stM (cellsOf v) p) fun _ => k undef'
  | false => .fail
def gNil (v : Option Value) (k : Value → Tr R) : Tr R := match v with
  | some (.pointer p) => .op (nilM p) fun a => k (adrV a)
  | some (.func (.func f) x y) => k (.func (.func f) x y)
  | _ => .fail
def gBox (v : Value) (k : Value → Tr R) : Tr R := match v with
  | .tuple _ => .fail
  | v => .op (newM (cellsOf v)) fun b => k (pAddr b)
def gBuildSlice (te : TI) (n : Nat) (ps : List (Nat × Value)) (k : Value → Tr R) : Tr R := .op (bsM te.size n te.zero ps) fun b => k (pSlice n n b)
def gSliceOf (d : TypeDesc) (env : Env) (k : TI → Tr R) : Tr R := match d with
  | .slice e => wO (env.ty.get e) k
  | _ => .fail

/-- Nil on the right. -/
def isNilC (y : Operand) : Bool := match y with
  | .const (.pointer none) => true
  | .const (.slice none 0 0) => true
  | _ => false
def isConst (y : Operand) : Bool := match y with
  | .const _ => true
  | _ => false
def gNilP (op : BinOp) (ti : TI) (v : Option Value) (k : Value → Tr R) : Tr R := match ti.desc with
  | .pointer _ => match v with
    | some (.pointer p) => match op with
      | .eql => k (.bool (isNil p))
      | .neq => k (.bool (!isNil p))
      | _ => .fail
    | _ => .fail
  | _ => .fail
def gNilS (op : BinOp) (ti : TI) (v : Option Value) (k : Value → Tr R) : Tr R := match ti.desc with
  | .slice _ => match v with
    | some (.slice a _ _) => match op with
      | .eql => k (.bool (isNil a))
      | .neq => k (.bool (!isNil a))
      | _ => .fail
    | _ => .fail
  | _ => .fail
def gBin (op : BinOp) (ti : TI) (x y : Operand) (env : Env) (tm : T Value) (pureWay : Tr R) (k : Value → Tr R) : Tr R := match isNilC y with
  | true => match ev y tm with
    | some (.pointer none) => gNilP op ti (ev x tm) k
    | some (.slice none 0 0) => gNilS op ti (ev x tm) k
    | _ => .fail
  | false => match op with
    | .shl | .shr => intT (ev x tm) fun ik m => intT (ev y tm) fun jk n => .op (arM op ik m jk n) fun r => k (.int ik r)
    | .quo | .rem => match isConst y with
      | true => pureWay
      | false => intT (ev x tm) fun ik m => intT (ev y tm) fun jk n => .op (arM op ik m jk n) fun r => k (.int ik r)
    | _ => pureWay

def gSlice (env : Env) (d : TypeDesc) (x : Option Value) (lo hi mx : Option Value) (k : Value → Tr R) : Tr R := match d with
  | .array n e => wO (env.ty.get e) fun te => ptrT x fun p => .op (slA te.size n p lo hi mx) fun v => k (slV v)
  | .slice e => wO (env.ty.get e) fun te => match x with
    | some (.slice a n c) => .op (slS te.size ⟨a, n, c⟩ lo hi mx) fun v => k (slV v)
    | _ => .fail
  | _ => .fail
def gIndexAddr (env : Env) (d : TypeDesc) (x i : Option Value) (k : Value → Tr R) : Tr R := match d with
  | .array n e => wO (env.ty.get e) fun te => ptrT x fun p => intT i fun ik i => .op (ixP te.size n p ik i) fun a => k (adrV a)
  | .slice e => wO (env.ty.get e) fun te => match x with
    | some (.slice a n _) => intT i fun ik i => .op (ixP te.size n a ik i) fun a => k (adrV a)
    | _ => .fail
  | _ => .fail
def gIndex (env : Env) (d : TypeDesc) (x i : Option Value) (k : Value → Tr R) : Tr R := match d with
  | .array n e => wO (env.ty.get e) fun te => match x with
    | some (.agg cs) => intT i fun _ i => match sizeOK te (shTI te) with
      | true => .op (ixA (shTI te) n te.size cs.toList i) fun x => k ((shTI te).mk x)
      | false => .fail
    | _ => .fail
  | .string => match x with
    | some (.string b) => intT i fun _ i => .op (ixS b i) fun c => k (.int .u8 c)
    | _ => .fail
  | _ => .fail
def gField (env : Env) (t : TypeId) (i : Nat) (x : Option Value) (k : Value → Tr R) : Tr R := wO (env.ty.get t) fun ti => match ti.desc with
  | .struct fs => wO (nthL fs.toList i) fun f => wO (env.ty.get f.type) fun te => match Nat.beq te.size 0 with
    | true => .fail
    | false => ptrT x fun p => .op (fldM f.offset p) fun a => k (adrV a)
  | _ => .fail
/-- A field of an aggregate that is handled as a whole. -/
def gFieldV (env : Env) (t : TypeId) (i : Nat) (x : Option Value) (pureWay : Tr R) (k : Value → Tr R) : Tr R := wO (env.ty.get t) fun ti => match Nat.blt 12 (lenL ti.zero) with
  | false => pureWay
  | true => match ti.desc with
    | .struct fs => wO (nthL fs.toList i) fun f => wO (env.ty.get f.type) fun te => match x with
      | some (.agg cs) => match sizeOK te (shTI te) with
        | true => .op (fdM (shTI te) f.offset cs.toList) fun x => k ((shTI te).mk x)
        | false => .fail
      | _ => .fail
    | _ => .fail
def gPick (c a b : Option Value) (k : Value → Tr R) : Tr R := match c with
  | some (.bool c) => cond c (wO a k) (wO b k)
  | _ => .fail

def mmV (mx : Bool) : List Value → Value → Option Value
  | [] => fun x => some x
  | y :: l => fun x => match x with
    | .int k a => match y with
      | .int _ b => mmV mx l (.int k (match mx with
        | true => maxI a b
        | false => minI a b))
      | _ => none
    | _ => none
def gMM (mx : Bool) (args : List Value) (k : Value → Tr R) : Tr R := match args with
  | [] => .fail
  | x :: l => wO (mmV mx l x) k

def gBuiltin (b : Builtin) (env : Env) (ts : List TypeId) (args : List Value) (pureWay : Tr R) (k : Value → Tr R) : Tr R := match b with
  | .len => pureWay
  | .min => gMM false args k
  | .max => gMM true args k
  | .append => match ts with
    | [t0, t1] => wO (env.ty.get t0) fun ti => gSliceOf ti.desc env fun te => wO (env.ty.get t1) fun t1 => match isIntD t1.desc with
      | true => .fail
      | false => match args with
        | [x, y] => .op (apM te.size te.bytes x y) fun v => k (slV v)
        | _ => .fail
    | _ => .fail
  | .copy => match ts with
    | t :: _ => wO (env.ty.get t) fun ti => gSliceOf ti.desc env fun te => match args with
      | [x, y] => .op (cpM te.size x y) fun n => k (.int .i64 n)
      | _ => .fail
    | _ => .fail
  | .clear => match ts with
    | t :: _ => wO (env.ty.get t) fun ti => gSliceOf ti.desc env fun te => match args with
      | [x] => .op (clM te.zero x) fun _ => k undef'
      | _ => .fail
    | _ => .fail
  | _ => .fail

def gCall (sh : Option S3) (c : Call) (env : Env) (call : CallH) (tm : T Value) (pureWay : Tr R) (k : Value → Tr R) : Tr R := wO (evs c.args.toList tm) fun args => match c.callee with
  | .value f => wO (ev f tm) fun f => wO sh fun sh => .op (ty3 sh (callV call args f)) fun x => k (sh.mk x)
  | .builtin b => gBuiltin b env c.argTypes.toList args pureWay k
  | .invoke _ _ => .fail

/-- Operations that are run at once. -/
def plainOp (o : Op) (env : Env) : Bool := match cls o env with
  | .pure => true
  | _ => false
def gPlain (o : Op) (env : Env) (call : CallH) (tm : T Value) (k : Value → Tr R) : Tr R := match plainOp o env with
  | true => pureK (execOp o env call tm s0) k
  | false => .fail

def gOp' (sh : Option S3) (o : Op) (env : Env) (call : CallH) (tm : T Value) (k : Value → Tr R) : Tr R := match o with
  | .pick c a b => gPick (ev c tm) (ev a tm) (ev b tm) k
  | .alloc t => wO (env.ty.get t) fun ti => .op (newM ti.zero) fun b => k (pAddr b)
  | .box _ x => wO (ev x tm) fun v => gBox v k
  | .buildSlice t n ps => wO (env.ty.get t) fun ti => gSliceOf ti.desc env fun te => wO (evPs ps.toList tm) fun ps => gBuildSlice te n ps k
  | .load t x => wO (env.ty.get t) fun ti => ptrT (ev x tm) fun p => gLoad ti p k
  | .store t x y => wO (env.ty.get t) fun ti => wO (ev y tm) fun v => ptrT (ev x tm) fun p => gStore ti v p k
  | .nilCheck x => gNil (ev x tm) k
  | .binOp op t x y _ => wO (env.ty.get t) fun ti => gBin op ti x y env tm (gPlain o env call tm k) k
  | .makeSlice t l c => wO (env.ty.get t) fun ti => gSliceOf ti.desc env fun te => wO (ev l tm) fun l => wO (ev c tm) fun c => .op (mkM te.size te.bytes te.zero l c) fun v => k (slV v)
  | .slice t x lo hi mx => wO (env.ty.get t) fun ti => wO (evO lo tm) fun lo => wO (evO hi tm) fun hi => wO (evO mx tm) fun mx => gSlice env ti.desc (ev x tm) lo hi mx k
  | .fieldAddr t x i => gField env t i (ev x tm) k
  | .field t x i => gFieldV env t i (ev x tm) (gPlain o env call tm k) k
  | .indexAddr t x i => wO (env.ty.get t) fun ti => gIndexAddr env ti.desc (ev x tm) (ev i tm) k
  | .index t x i => wO (env.ty.get t) fun ti => gIndex env ti.desc (ev x tm) (ev i tm) k
  | .call c => gCall sh c env call tm (gPlain o env call tm k) k
  | _ => gPlain o env call tm k
def gOp (sh : Option S3) (o : Op) (env : Env) (call : CallH) (tm : T Value) (k : Value → Tr R) : Tr R := match defd tm o.operands.toList with
  | true => gOp' sh o env call tm k
  | false => .fail

/-! ### Regions -/

/-- Which way a guard goes; the slot is set to what is known on each way. -/
def gGuard (want : Bool) (t : Tmp) (b : Bool) (tm : T Value) (yes no : T Value → Tr R) : Tr R :=
  cond b (cond want (yes (tm.set t (.bool true))) (no (tm.set t (.bool true)))) (cond want (no (tm.set t (.bool false))) (yes (tm.set t (.bool false))))
def gStep (shT : Nat → Option S3) (ops : List Oper) (o : Oper) (env : Env) (call : CallH) (tm : T Value) (k : T Value → Tr R) : Tr R := match o.guard with
  | none => gOp (shT o.type) o.op env call tm fun v => k (putT o.dst v tm)
  | some (j, want) => match slotOf (nthL ops j) with
    | none => k (putT o.dst undef' tm)
    | some t => match tm.get t with
      | some (.bool b) => gGuard want t b tm (fun tm => gOp (shT o.type) o.op env call tm fun v => k (putT o.dst v tm)) (fun tm => k (putT o.dst undef' tm))
      | some (.tuple _) => k (putT o.dst undef' tm)
      | _ => .fail
def gOps (shT : Nat → Option S3) (ops : List Oper) (env : Env) (call : CallH) (l : List Oper) : T Value → (T Value → Tr R) → Tr R :=
  List.rec (motive := fun _ => T Value → (T Value → Tr R) → Tr R) (fun tm k => k tm) (fun o _ f tm k => gStep shT ops o env call tm fun tm => f tm k) l

def clrP (m : Nat) (p : Option Addr) : Recs → Bool
  | [] => true
  | (i, c, seg) :: l => match bit m i with
    | true => clrP m p l
    | false => match p with
      | none => clrP m p l
      | some a => match Nat.blt a.block c with
        | true => match memN a.block seg with
          | true => false
          | false => clrP m p l
        | false => false
def gClear (m : Nat) (recs : Recs) (o : Op) (tm : T Value) : Option Bool := match o with
  | .load _ x => match ev x tm with
    | some (.pointer p) => some (clrP m p recs)
    | _ => none
  | .slice _ x _ _ _ => match ev x tm with
    | some (.slice a _ _) => some (clrP m a recs)
    | some (.pointer _) => some true
    | _ => none
  | _ => none
def gW (i : Nat) (recs : Recs) (m : (T Value → Tr R) → Tr R) (k : T Value × Recs → Tr R) : Tr R :=
  .op begW fun q => m fun tm => .op (endW q.2) fun seg => k (tm, (i, q.1, seg) :: recs)
/-- A load, where no writer that is not ordered with it has been. -/
def gRead (shT : Nat → Option S3) (ops : List Oper) (e : PE) (env : Env) (call : CallH) (recs : Recs) (tm : T Value) (k : T Value → Tr R) : Tr R := match e.o.guard with
  | none => match gClear e.m recs e.o.op tm with
    | some c => cond c (gStep shT ops e.o env call tm k) .fail
    | none => .fail
  | some (j, want) => match slotOf (nthL ops j) with
    | none => k (putT e.o.dst undef' tm)
    | some t => match tm.get t with
      | some (.bool b) => gGuard want t b tm (fun tm => match gClear e.m recs e.o.op tm with
          | some c => cond c (gOp (shT e.o.type) e.o.op env call tm fun v => k (putT e.o.dst v tm)) .fail
          | none => .fail) (fun tm => k (putT e.o.dst undef' tm))
      | some (.tuple _) => k (putT e.o.dst undef' tm)
      | _ => .fail
def gPE (shT : Nat → Option S3) (ops : List Oper) (e : PE) (env : Env) (call : CallH) (recs : Recs) (tm : T Value) (k : T Value × Recs → Tr R) : Tr R := match e.cls with
  | .writer => gW e.i recs (gStep shT ops e.o env call tm) k
  | .alloc => gW e.i recs (gStep shT ops e.o env call tm) k
  | .load => gRead shT ops e env call recs tm fun tm => k (tm, recs)
  | .pure => gStep shT ops e.o env call tm fun tm => k (tm, recs)
def gPEs (shT : Nat → Option S3) (ops : List Oper) (env : Env) (call : CallH) (l : List PE) : T Value × Recs → (T Value → Tr R) → Tr R :=
  List.rec (motive := fun _ => T Value × Recs → (T Value → Tr R) → Tr R) (fun r k => k r.1) (fun e _ f r k => gPE shT ops e env call r.2 r.1 fun r => f r k) l

def gRegion (shT : Nat → Option S3) (ops : List Oper) (draw : Bool) (env : Env) (call : CallH) (tm : T Value) (k : T Value → Tr R) : Tr R := match draw with
  | false => gOps shT ops env call ops tm k
  | true => match okPlan env ops (planOf env ops) with
    | true => gPEs shT ops env call (planOf env ops) (tm, []) k
    | false => .fail
end
end
end Go.Ax
