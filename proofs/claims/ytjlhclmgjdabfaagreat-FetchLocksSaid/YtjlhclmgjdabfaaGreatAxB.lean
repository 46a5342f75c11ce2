/- The abstract executor: a deterministic interpreter of the model's code over a small heap of its own. Definitions only.
Conditions: none. -/
import GoSem.Dispatch
namespace Go.Ax
set_option linter.unusedVariables false
set_option linter.unusedSimpArgs false
set_option linter.unusedSectionVars false

/-! ### Tries -/

inductive T (α : Type) where
  | nil
  | node (v : Option α) (l r : T α)

namespace T
variable {α : Type}

/-- One level of a look-up. -/
noncomputable def getN (v : Option α) (l r : Nat → Option α) (n : Nat) : Option α :=
  Bool.rec (motive := fun _ => Option α) (Bool.rec (motive := fun _ => Option α) (r (Nat.sub (Nat.div n 2) 1)) (l (Nat.div n 2)) (Nat.beq (Nat.mod n 2) 1)) v (Nat.beq n 0)

noncomputable def get (t : T α) : Nat → Option α := T.rec (motive := fun _ => Nat → Option α) (fun _ => none) (fun v _ _ l r => getN v l r) t

def val : T α → Option α
  | .nil => none
  | .node v _ _ => v
def lft : T α → T α
  | .nil => .nil
  | .node _ l _ => l
def rgt : T α → T α
  | .nil => .nil
  | .node _ _ r => r

/-- The same with another value at n; the first argument is fuel, greater than n. -/
noncomputable def setV (x : Option α) (f : T α → Nat → T α) (n : Nat) (v : Option α) (l r : T α) : T α :=
  Bool.rec (motive := fun _ => T α) (Bool.rec (motive := fun _ => T α) (.node v l (f r (Nat.sub (Nat.div n 2) 1))) (.node v (f l (Nat.div n 2)) r) (Nat.beq (Nat.mod n 2) 1)) (.node x l r) (Nat.beq n 0)
noncomputable def setN (x : Option α) (f : T α → Nat → T α) (t : T α) (n : Nat) : T α :=
  T.rec (motive := fun _ => T α) (setV x f n none .nil .nil) (fun v l r _ _ => setV x f n v l r) t
noncomputable def setF (x : Option α) (f : Nat) : T α → Nat → T α := Nat.rec (motive := fun _ => T α → Nat → T α) (fun t _ => t) (fun _ f => setN x f) f

noncomputable def set (t : T α) (n : Nat) (x : α) : T α := setF (some x) (Nat.succ n) t n
noncomputable def del (t : T α) (n : Nat) : T α := setF none (Nat.succ n) t n

/-- n values from off on. -/
def consO (v : α) (l : Option (List α)) : Option (List α) := match l with
  | none => none
  | some l => some (v :: l)
def readN (t : T α) (f : Nat → Option (List α)) (v : Option α) (off : Nat) : Option (List α) := match v with
  | none => none
  | some v => consO v (f (Nat.succ off))
noncomputable def read (t : T α) (n : Nat) : Nat → Option (List α) :=
  Nat.rec (motive := fun _ => Nat → Option (List α)) (fun _ => some []) (fun _ f off => readN t f (t.get off) off) n

noncomputable def write (l : List α) : T α → Nat → T α :=
  List.rec (motive := fun _ => T α → Nat → T α) (fun t _ => t) (fun v _ f t off => f (t.set off v) (Nat.succ off)) l

noncomputable def ofList (l : List α) : T α := write l .nil 0

/-- A table out of pairs. -/
noncomputable def ofPairs (l : List (Nat × α)) : T α :=
  List.rec (motive := fun _ => T α) .nil (fun p _ t => t.set p.1 p.2) l
end T

/-! ### The heap -/

structure LoopR where
  tmps : T Value
  params : List Tmp
  assign : Code
  body : Code

inductive AObj where
  | cells (size es : Nat) (tight ro : Bool) (cs : T Value)
  | loop (r : LoopR)
  /-- A map without entries. -/
  | map
  /-- What ranges over such a map. -/
  | iter

structure HS where
  h : T AObj
  c : Nat
  log : List Nat

/-- A step on the heap that may fail. -/
abbrev M (α : Type) := HS → Option (α × HS)

namespace M
variable {α β : Type}
def fail : M α := fun _ => none
def pure (a : α) : M α := fun s => some (a, s)
noncomputable def bind (m : M α) (k : α → M β) : M β := fun s => Option.rec (motive := fun _ => Option (β × HS)) none (fun p => Prod.rec (motive := fun _ => Option (β × HS)) k p) (m s)
def ofO : Option α → M α
  | none => fail
  | some a => pure a
/-- A value that need not exist, handed on. -/
noncomputable def withO (o : Option α) (k : α → M β) : M β := Option.rec (motive := fun _ => M β) fail k o
end M

structure TI where
  desc : TypeDesc
  size : Nat
  bytes : Nat
  zero : List Value
  /-- Two values of this type are compared cell by cell. -/
  flat : Bool

structure Env where
  ty : T TI
  fn : T Func

inductive Tgt where
  | fn (f : Nat)
  | yield (l : Nat)

abbrev CallH := Tgt → List Value → M Value

/-! ### Operands and values -/

noncomputable def constOK1 : Value → Bool
  | .bool _ | .int _ _ | .string _ | .pointer none | .slice none 0 0 | .nilFunc | .nilIface | .map none => true
  | _ => false

noncomputable def constOK : Value → Bool
  | .agg cs => cs.toList.all constOK1
  | v => constOK1 v

noncomputable def undef' : Value := .tuple #[]

noncomputable def evT (o : Option Value) : Option Value := match o with
  | some v => some v
  | none => some undef'

noncomputable def evC (v : Value) : Option Value := match constOK v with
  | true => some v
  | false => none

noncomputable def ev (o : Operand) (tm : T Value) : Option Value := match o with
  | .tmp t => evT (tm.get t)
  | .const v => evC v
  | .global _ => none
  | .func f => some (.func (.func f) #[] #[])

noncomputable def evsN (v : Option Value) (vs : Option (List Value)) : Option (List Value) := match v with
  | none => none
  | some v => T.consO v vs
noncomputable def evs (l : List Operand) : T Value → Option (List Value) :=
  List.rec (motive := fun _ => T Value → Option (List Value)) (fun _ => some []) (fun x _ f tm => evsN (ev x tm) (f tm)) l

noncomputable def evO (o : Option Operand) (tm : T Value) : Option (Option Value) := match o with
  | none => some none
  | some x => match ev x tm with
    | none => none
    | some v => some (some v)

noncomputable def isAggD : TypeDesc → Bool
  | .struct _ | .array _ _ => true
  | _ => false

noncomputable def isCell : Value → Bool
  | .agg _ | .tuple _ => false
  | _ => true

noncomputable def andB (a b : Bool) : Bool := match a with
  | true => b
  | false => false
noncomputable def allCells (l : List Value) : Bool := List.rec (motive := fun _ => Bool) true (fun v _ b => andB (isCell v) b) l

noncomputable def cellsOf : Value → List Value
  | .agg cs => cs.toList
  | v => [v]

noncomputable def lenL {α : Type} (l : List α) : Nat := List.rec (motive := fun _ => Nat) 0 (fun _ _ n => Nat.succ n) l

noncomputable def appL {α : Type} (l m : List α) : List α := List.rec (motive := fun _ => List α) m (fun x _ r => x :: r) l

noncomputable def repL {α : Type} (l : List α) (n : Nat) : List α := Nat.rec (motive := fun _ => List α) [] (fun _ r => appL l r) n

noncomputable def takeN {α : Type} (f : List α → List α) (l : List α) : List α := match l with
  | [] => []
  | x :: m => x :: f m
noncomputable def takeL {α : Type} (n : Nat) : List α → List α := Nat.rec (motive := fun _ => List α → List α) (fun _ => []) (fun _ f => takeN f) n

noncomputable def dropN {α : Type} (f : List α → List α) (l : List α) : List α := match l with
  | [] => []
  | _ :: m => f m
noncomputable def dropL {α : Type} (n : Nat) : List α → List α := Nat.rec (motive := fun _ => List α → List α) (fun l => l) (fun _ f => dropN f) n

noncomputable def nthN {α : Type} (x : α) (f : Nat → Option α) (n : Nat) : Option α := match n with
  | 0 => some x
  | k + 1 => f k
noncomputable def nthL {α : Type} (l : List α) : Nat → Option α := List.rec (motive := fun _ => Nat → Option α) (fun _ => none) (fun x _ f => nthN x f) l

/-! ### Heap steps -/

/-- Evaluates a number before it is handed on. -/
noncomputable def force {α : Type} (n : Nat) (k : Nat → α) : α := match n with
  | 0 => k 0
  | m + 1 => k (Nat.succ m)

noncomputable def newObj (o : AObj) : M Nat := fun s => force s.c fun c => some (c, { h := s.h.set c o, c := Nat.succ c, log := s.log })

noncomputable def newCells (es : Nat) (tight : Bool) (n : Nat) (l : List Value) : M Nat := newObj (.cells n es tight false (T.ofList l))

noncomputable def getR : Option AObj → HS → Option (AObj × HS)
  | none => fun _ => none
  | some o => fun s => some (o, s)
noncomputable def getObj (b : Nat) : M AObj := fun s => getR (s.h.get b) s
noncomputable def setR (b : Nat) (o : AObj) (s : HS) (old : Option AObj) : Option (Unit × HS) := match old with
  | none => none
  | some _ => some ((), { h := s.h.set b o, c := s.c, log := b :: s.log })
noncomputable def setObj (b : Nat) (o : AObj) : M Unit := fun s => setR b o s (s.h.get b)
noncomputable def delR (b : Nat) (s : HS) (old : Option AObj) : Option (Unit × HS) := match old with
  | none => none
  | some _ => some ((), { h := s.h.del b, c := s.c, log := b :: s.log })
noncomputable def delObj (b : Nat) : M Unit := fun s => delR b s (s.h.get b)

noncomputable def loadB (off n : Nat) : AObj → M (List Value)
  | .cells size _ _ _ cs => match Nat.ble (Nat.add off n) size with
    | true => M.ofO (cs.read n off)
    | false => M.fail
  | _ => M.fail
noncomputable def loadN (a : Addr) (n : Nat) : M (List Value) := match a with
  | ⟨b, off, none⟩ => M.bind (getObj b) (loadB off n)
  | _ => M.fail

noncomputable def storeB (b off : Nat) (l : List Value) : AObj → M Unit
  | .cells size es tight ro cs => match ro with
    | true => M.fail
    | false => match Nat.ble (Nat.add off (lenL l)) size with
      | true => setObj b (.cells size es tight false (T.write l cs off))
      | false => M.fail
  | _ => M.fail
noncomputable def storeN (a : Addr) (l : List Value) : M Unit := match a with
  | ⟨b, off, none⟩ => match allCells l with
    | true => M.bind (getObj b) (storeB b off l)
    | false => M.fail
  | _ => M.fail

noncomputable def addA (a : Addr) (n : Nat) : Addr := match a with
  | ⟨b, off, s⟩ => ⟨b, Nat.add off n, s⟩

/-! ### Values of the basic kinds -/

noncomputable def modK : IntKind → Nat
  | .i8 | .u8 => 256
  | .i16 | .u16 => 65536
  | .i32 | .u32 => 4294967296
  | .i64 | .u64 => 18446744073709551616

noncomputable def halfK : IntKind → Nat
  | .i8 => 128 | .i16 => 32768 | .i32 => 2147483648 | .i64 => 9223372036854775808
  | .u8 => 256 | .u16 => 65536 | .u32 => 4294967296 | .u64 => 18446744073709551616

/-- The number of kind k that is n modulo 2^bits, for n below 2^bits. -/
noncomputable def signK (k : IntKind) (n : Nat) : Int := match Nat.blt n (halfK k) with
  | true => force n Int.ofNat
  | false => force (Nat.pred (Nat.sub (modK k) n)) Int.negSucc

/-- An integer's residue as a natural number below 2^bits. -/
noncomputable def natK (k : IntKind) (x : Int) : Nat := match x with
  | .ofNat n => Nat.mod n (modK k)
  | .negSucc n => Nat.sub (modK k) (Nat.succ (Nat.mod n (modK k)))

noncomputable def wrapK (k : IntKind) (x : Int) : Int := signK k (natK k x)

noncomputable def iEq (x y : Int) : Bool := match x, y with
  | .ofNat a, .ofNat b => Nat.beq a b
  | .negSucc a, .negSucc b => Nat.beq a b
  | _, _ => false
noncomputable def iLt (x y : Int) : Bool := match x, y with
  | .ofNat a, .ofNat b => Nat.blt a b
  | .negSucc a, .negSucc b => Nat.blt b a
  | .negSucc _, .ofNat _ => true
  | .ofNat _, .negSucc _ => false
noncomputable def iLe (x y : Int) : Bool := match x, y with
  | .ofNat a, .ofNat b => Nat.ble a b
  | .negSucc a, .negSucc b => Nat.ble b a
  | .negSucc _, .ofNat _ => true
  | .ofNat _, .negSucc _ => false

noncomputable def shlN (a n : Nat) : Nat := Nat.mul a (Nat.pow 2 n)
noncomputable def shrN (a n : Nat) : Nat := Nat.div a (Nat.pow 2 n)

noncomputable def bitsOf : IntKind → Nat
  | .i8 | .u8 => 8
  | .i16 | .u16 => 16
  | .i32 | .u32 => 32
  | .i64 | .u64 => 64

noncomputable def nEq (k k' : IntKind) : Bool := match k, k' with
  | .i8, .i8 | .i16, .i16 | .i32, .i32 | .i64, .i64 | .u8, .u8 | .u16, .u16 | .u32, .u32 | .u64, .u64 => true
  | _, _ => false

noncomputable def ofI (k : IntKind) (x : Int) : Option Value := some (.int k x)
noncomputable def ofB (b : Bool) : Option Value := some (.bool b)

/-- Integer operations of two operands of one kind. -/
noncomputable def binI (op : BinOp) (k : IntKind) (x y : Int) : Option Value := match op with
  | .add => ofI k (wrapK k (Int.add x y))
  | .sub => ofI k (wrapK k (Int.sub x y))
  | .mul => ofI k (wrapK k (Int.mul x y))
  | .quo => match iEq y 0 with
    | true => none
    | false => ofI k (wrapK k (Int.tdiv x y))
  | .rem => match iEq y 0 with
    | true => none
    | false => ofI k (Int.tmod x y)
  | .and => ofI k (signK k (Nat.land (natK k x) (natK k y)))
  | .or => ofI k (signK k (Nat.lor (natK k x) (natK k y)))
  | .xor => ofI k (signK k (Nat.xor (natK k x) (natK k y)))
  | .andNot => ofI k (signK k (Nat.land (natK k x) (Nat.sub (Nat.pred (modK k)) (natK k y))))
  | .eql => ofB (iEq x y)
  | .neq => ofB (!iEq x y)
  | .lss => ofB (iLt x y)
  | .leq => ofB (iLe x y)
  | .gtr => ofB (iLt y x)
  | .geq => ofB (iLe y x)
  | .shl | .shr => none

/-- Shifts: of numbers that are not negative. -/
noncomputable def shI (op : BinOp) (k : IntKind) (x y : Int) : Option Value := match x, y with
  | .ofNat a, .ofNat b => match op with
    | .shl => match Nat.ble b (bitsOf k) with
      | true => ofI k (signK k (Nat.mod (shlN a b) (modK k)))
      | false => ofI k 0
    | .shr => match Nat.ble b (bitsOf k) with
      | true => ofI k (force (shrN a b) Int.ofNat)
      | false => ofI k (force (shrN a (bitsOf k)) Int.ofNat)
    | _ => none
  | _, _ => none

noncomputable def binII (op : BinOp) (k : IntKind) (x : Int) (k' : IntKind) (y : Int) : Option Value := match op with
  | .shl => shI .shl k x y
  | .shr => shI .shr k x y
  | op => match nEq k k' with
    | true => binI op k x y
    | false => none

noncomputable def listEqB : List UInt8 → List UInt8 → Bool
  | [] => fun m => match m with
    | [] => true
    | _ :: _ => false
  | x :: l => fun m => match m with
    | [] => false
    | y :: m => match Nat.beq x.toNat y.toNat with
      | true => listEqB l m
      | false => false

noncomputable def binS (op : BinOp) (x y : ByteArray) : Option Value := match op with
  | .eql => ofB (listEqB x.data.toList y.data.toList)
  | .neq => ofB (!listEqB x.data.toList y.data.toList)
  | _ => none

/-- Equality of two cells of an aggregate of numbers and bools; z is the cell of the zero value. -/
noncomputable def cellEq (z x y : Value) : Option Bool := match z, x, y with
  | .int j _, .int k x, .int k' y => match nEq j k with
    | true => match nEq k k' with
      | true => some (iEq x y)
      | false => none
    | false => none
  | .bool _, .bool x, .bool y => some (x == y)
  | _, _, _ => none

noncomputable def andO (a b : Option Bool) : Option Bool := match a with
  | none => none
  | some a => match b with
    | none => none
    | some b => some (a && b)

noncomputable def cellsEq : List Value → List Value → List Value → Option Bool
  | [] => fun l m => match l, m with
    | [], [] => some true
    | _, _ => none
  | z :: zs => fun l m => match l, m with
    | x :: l, y :: m => andO (cellEq z x y) (cellsEq zs l m)
    | _, _ => none

noncomputable def isNil {α : Type} : Option α → Bool
  | none => true
  | some _ => false

noncomputable def eqlV (ti : TI) (x y : Value) : Option Bool := match ti.desc, x, y with
  | _, .agg xs, .agg ys => match ti.flat with
    | true => cellsEq ti.zero xs.toList ys.toList
    | false => none
  | .bool, .bool a, .bool b => some (a == b)
  | .pointer _, .pointer none, .pointer b => some (isNil b)
  | .pointer _, .pointer (some _), .pointer none => some false
  | .slice _, .slice none _ _, .slice b _ _ => some (isNil b)
  | .slice _, .slice (some _) _ _, .slice none _ _ => some false
  | _, _, _ => none

noncomputable def binV (ti : TI) (op : BinOp) (x y : Value) : Option Value := match x, y with
  | .int k a, .int k' b => binII op k a k' b
  | .string a, .string b => binS op a b
  | x, y => match op with
    | .eql => match eqlV ti x y with
      | some b => ofB b
      | none => none
    | .neq => match eqlV ti x y with
      | some b => ofB (!b)
      | none => none
    | _ => none

noncomputable def unV (op : UnOp) (x : Value) : Option Value := match op, x with
  | .not, .bool b => ofB (!b)
  | .neg, .int k n => ofI k (wrapK k (Int.sub 0 n))
  | .xor, .int .u64 n => ofI .u64 (signK .u64 (Nat.sub 18446744073709551615 (natK .u64 n)))
  | _, _ => none

/-! ### Operations -/

noncomputable def ret (v : Value) : M Value := M.pure v

noncomputable def pAddr (b : Nat) : Value := .pointer (some ⟨b, 0, none⟩)
noncomputable def pSlice (l c b : Nat) : Value := .slice (some ⟨b, 0, none⟩) l c

noncomputable def mapM {α β : Type} (f : α → β) (m : M α) : M β := M.bind m fun a => M.pure (f a)

noncomputable def fillL (place : Nat → Option (Nat × Nat)) (n : Nat) : List (Nat × Value) → T Value → Option (T Value)
  | [] => fun cells => some cells
  | (i, v) :: rest => fun cells => match place i with
    | none => none
    | some (off, size) => match Nat.beq (lenL (cellsOf v)) size with
      | false => none
      | true => match Nat.ble (Nat.add off size) n with
        | false => none
        | true => fillL place n rest (T.write (cellsOf v) cells off)

noncomputable def evPs : List (Nat × Operand) → T Value → Option (List (Nat × Value))
  | [] => fun _ => some []
  | (i, x) :: l => fun tm => match ev x tm with
    | none => none
    | some v => match evPs l tm with
      | none => none
      | some vs => some ((i, v) :: vs)

noncomputable def fieldPl (env : Env) (fs : List Field) (i : Nat) : Option (Nat × Nat) := match nthL fs i with
  | none => none
  | some f => match env.ty.get f.type with
    | none => none
    | some g => some (f.offset, g.size)

noncomputable def elemPl (es i : Nat) : Option (Nat × Nat) := some (Nat.mul i es, es)

noncomputable def aggOf (n : Nat) (o : Option (T Value)) : M Value := match o with
  | none => M.fail
  | some cells => match cells.read n 0 with
    | none => M.fail
    | some l => ret (.agg ⟨l⟩)

/-- Every field's type is in the table. -/
noncomputable def fieldsIn (env : Env) : List Field → Bool
  | [] => true
  | f :: l => match env.ty.get f.type with
    | some _ => fieldsIn env l
    | none => false
noncomputable def buildK (env : Env) (ti : TI) (ps : List (Nat × Value)) : M Value := match ti.desc with
  | .struct fs => match fieldsIn env fs.toList with
    | true => aggOf ti.size (fillL (fieldPl env fs.toList) ti.size ps (T.ofList ti.zero))
    | false => M.fail
  | .array _ e => M.withO (env.ty.get e) fun te => aggOf ti.size (fillL (elemPl te.size) ti.size ps (T.ofList ti.zero))
  | _ => M.fail
noncomputable def opBuild (t : TypeId) (parts : Array (Nat × Operand)) (env : Env) (_ : CallH) (tm : T Value) : M Value :=
  M.withO (env.ty.get t) fun ti => M.withO (evPs parts.toList tm) (buildK env ti)

noncomputable def sliceOfCells (es len n : Nat) (o : Option (T Value)) : M Value := match o with
  | none => M.fail
  | some cells => mapM (pSlice len len) (newObj (.cells n es true false cells))
noncomputable def opBuildSlice (t : TypeId) (len : Nat) (parts : Array (Nat × Operand)) (env : Env) (_ : CallH) (tm : T Value) : M Value :=
  M.withO (env.ty.get t) fun ti => match ti.desc with
  | .slice e => M.withO (env.ty.get e) fun te => M.withO (evPs parts.toList tm) fun ps => match Nat.ble (Nat.mul len te.size) 10000 with
    | true => sliceOfCells te.size len (Nat.mul len te.size) (fillL (elemPl te.size) (Nat.mul len te.size) ps (T.ofList (repL te.zero len)))
    | false => M.fail
  | _ => M.fail

noncomputable def opMove (x : Operand) (_ : Env) (_ : CallH) (tm : T Value) : M Value := M.ofO (ev x tm)

noncomputable def opPick (c a b : Operand) (_ : Env) (_ : CallH) (tm : T Value) : M Value := match ev c tm with
  | some (.bool true) => M.ofO (ev a tm)
  | some (.bool false) => M.ofO (ev b tm)
  | _ => M.fail

noncomputable def opAlloc (t : TypeId) (env : Env) (_ : CallH) (_ : T Value) : M Value :=
  M.withO (env.ty.get t) fun ti => mapM pAddr (newCells 1 true (lenL ti.zero) ti.zero)

noncomputable def boxV (v : Value) : M Value := match v with
  | .tuple _ => M.fail
  | v => mapM pAddr (newCells 1 true (lenL (cellsOf v)) (cellsOf v))
noncomputable def opBox (x : Operand) (_ : Env) (_ : CallH) (tm : T Value) : M Value := M.withO (ev x tm) boxV

noncomputable def one (l : List Value) : M Value := match l with
  | [v] => ret v
  | _ => M.fail
noncomputable def aggL (l : List Value) : M Value := ret (.agg ⟨l⟩)
noncomputable def loadV (ti : TI) (a : Addr) : M Value := match isAggD ti.desc with
  | true => M.bind (loadN a ti.size) aggL
  | false => M.bind (loadN a 1) one
noncomputable def ptrK {α : Type} (k : Addr → M α) (v : Value) : M α := match v with
  | .pointer (some a) => k a
  | _ => M.fail
noncomputable def opLoad (t : TypeId) (x : Operand) (env : Env) (_ : CallH) (tm : T Value) : M Value :=
  M.withO (env.ty.get t) fun ti => M.withO (ev x tm) (ptrK (loadV ti))

noncomputable def unitV (_ : Unit) : M Value := ret undef'
noncomputable def storeV (ti : TI) (v : Value) (a : Addr) : M Value := match Nat.beq (lenL (cellsOf v)) ti.size with
  | true => M.bind (storeN a (cellsOf v)) unitV
  | false => M.fail
noncomputable def opStore (t : TypeId) (x y : Operand) (env : Env) (_ : CallH) (tm : T Value) : M Value :=
  M.withO (env.ty.get t) fun ti => M.withO (ev y tm) fun v => M.withO (ev x tm) (ptrK (storeV ti v))

noncomputable def nilK (v : Value) : M Value := match v with
  | .pointer (some a) => ret (.pointer (some a))
  | .func (.func f) x y => ret (.func (.func f) x y)
  | .func (.yield f) x y => ret (.func (.yield f) x y)
  | _ => M.fail
noncomputable def opNil (x : Operand) (_ : Env) (_ : CallH) (tm : T Value) : M Value := M.withO (ev x tm) nilK

noncomputable def opBin (op : BinOp) (t : TypeId) (x y : Operand) (env : Env) (_ : CallH) (tm : T Value) : M Value :=
  M.withO (env.ty.get t) fun ti => M.withO (ev x tm) fun a => M.withO (ev y tm) fun b => M.ofO (binV ti op a b)
noncomputable def opUn (op : UnOp) (x : Operand) (_ : Env) (_ : CallH) (tm : T Value) : M Value := M.withO (ev x tm) fun a => M.ofO (unV op a)

noncomputable def bytesV : List UInt8 → List Value
  | [] => []
  | b :: l => .int .u8 (Int.ofNat b.toNat) :: bytesV l
noncomputable def unbytes : List Value → Option (List UInt8)
  | [] => some []
  | v :: l => match v with
    | .int .u8 n => match unbytes l with
      | some m => some (UInt8.ofNat n.toNat :: m)
      | none => none
    | _ => none
noncomputable def strOf (o : Option (List UInt8)) : M Value := match o with
  | some l => ret (.string ⟨⟨l⟩⟩)
  | none => M.fail
noncomputable def isU8 : TypeDesc → Bool
  | .int .u8 => true
  | _ => false
noncomputable def convV (dst : TypeDesc) (x : Value) : M Value := match dst, x with
  | .int k, .int _ n => M.ofO (ofI k (wrapK k n))
  | .string, .string b => ret (.string b)
  | _, _ => M.fail
noncomputable def opConv (src dst : TypeId) (x : Operand) (env : Env) (_ : CallH) (tm : T Value) : M Value :=
  M.withO (env.ty.get src) fun _ => M.withO (env.ty.get dst) fun td => M.withO (ev x tm) (convV td.desc)

noncomputable def opFunc (fn : Fn) (first captured : Array Operand) (_ : Env) (_ : CallH) (tm : T Value) : M Value := match fn with
  | .func f => M.withO (evs first.toList tm) fun a => M.withO (evs captured.toList tm) fun b => ret (.func (.func f) ⟨a⟩ ⟨b⟩)
  | _ => M.fail

noncomputable def makeK (te : TI) (l c : Value) : M Value := match l, c with
  | .int _ (.ofNat l), .int _ (.ofNat c) => match Nat.ble l c with
    | true => match Nat.ble (Nat.mul c (Nat.add te.bytes 1)) 1000000 with
      | true => force l fun l => force c fun c => mapM (pSlice l c) (newCells te.size true (Nat.mul c te.size) (repL te.zero c))
      | false => M.fail
    | false => M.fail
  | _, _ => M.fail
noncomputable def opMake (t : TypeId) (l c : Operand) (env : Env) (_ : CallH) (tm : T Value) : M Value :=
  M.withO (env.ty.get t) fun ti => match ti.desc with
  | .slice e => M.withO (env.ty.get e) fun te => M.withO (ev l tm) fun l => M.withO (ev c tm) (makeK te l)
  | _ => M.fail

/-- A map without entries is made. -/
noncomputable def opMap (r : Option Operand) (_ : Env) (_ : CallH) (_ : T Value) : M Value := match r with
  | none => M.bind (newObj .map) fun k => ret (.map (some k))
  | some _ => M.fail
noncomputable def newIter : M Value := M.bind (newObj .iter) fun k => ret (.pointer (some ⟨k, 0, none⟩))
noncomputable def iterOf : AObj → M Value
  | .map => newIter
  | _ => M.fail
noncomputable def rangeV : Value → M Value
  | .map none => newIter
  | .map (some m) => M.bind (getObj m) iterOf
  | _ => M.fail
noncomputable def opRange (t : TypeId) (x : Operand) (env : Env) (_ : CallH) (tm : T Value) : M Value :=
  M.withO (env.ty.get t) fun ti => match ti.desc with
  | .map _ _ => M.withO (ev x tm) rangeV
  | _ => M.fail
noncomputable def nextOf : AObj → M Value
  | .iter => ret (.tuple ⟨[.bool false]⟩)
  | _ => M.fail
noncomputable def nextV : Value → M Value
  | .pointer (some a) => match a.off, a.spot with
    | 0, none => M.bind (getObj a.block) nextOf
    | _, _ => M.fail
  | _ => M.fail
noncomputable def opNext (it : Operand) (isS : Bool) (_ : Env) (_ : CallH) (tm : T Value) : M Value := match isS with
  | true => M.fail
  | false => M.withO (ev it tm) nextV

noncomputable def boundV (o : Option Value) (dflt most : Nat) : Option Nat := match o with
  | none => some dflt
  | some (.int _ (.ofNat n)) => match Nat.ble n most with
    | true => some n
    | false => none
  | _ => none

/-- Low, high and greatest of a slice expression. -/
noncomputable def bounds (len cap : Nat) (lo hi mx : Option Value) : Option (Nat × Nat × Nat) := match boundV mx cap cap with
  | none => none
  | some m => match mx, hi with
    | some _, none => none
    | _, _ => match boundV hi len m with
      | none => none
      | some h => match boundV lo 0 h with
        | none => none
        | some l => some (l, h, m)

noncomputable def sliceRes (es : Nat) (a : Addr) (r : Option (Nat × Nat × Nat)) : M Value := match r with
  | none => M.fail
  | some (l, h, m) => force l fun l => force (Nat.sub h l) fun n => force (Nat.sub m l) fun c => ret (.slice (some (addA a (Nat.mul l es))) n c)
/-- Of a slice whose capacity is not known: its elements must be the block's. -/
noncomputable def sliceS (es : Nat) (a : Addr) (r : Option (Nat × Nat × Nat)) (o : AObj) : M Value := match o with
  | .cells _ es' tight _ _ => match tight with
    | true => sliceRes es a r
    | false => match Nat.beq es es' with
      | true => sliceRes es a r
      | false => M.fail
  | _ => M.fail
noncomputable def sliceNil (r : Option (Nat × Nat × Nat)) : M Value := match r with
  | none => M.fail
  | some (l, h, m) => force (Nat.sub h l) fun n => force (Nat.sub m l) fun c => ret (.slice none n c)
noncomputable def sliceV (env : Env) (ti : TI) (x : Value) (lo hi mx : Option Value) : M Value := match ti.desc, x with
  | .array n e, .pointer (some a) => M.withO (env.ty.get e) fun te => sliceRes te.size a (bounds n n lo hi mx)
  | .slice e, .slice (some a) len cap => M.withO (env.ty.get e) fun te => M.bind (getObj a.block) (sliceS te.size a (bounds len cap lo hi mx))
  | .slice e, .slice none len cap => M.withO (env.ty.get e) fun _ => sliceNil (bounds len cap lo hi mx)
  | _, _ => M.fail
noncomputable def opSlice (t : TypeId) (x : Operand) (lo hi mx : Option Operand) (env : Env) (_ : CallH) (tm : T Value) : M Value :=
  M.withO (env.ty.get t) fun ti => M.withO (ev x tm) fun x => M.withO (evO lo tm) fun lo => M.withO (evO hi tm) fun hi => M.withO (evO mx tm) fun mx => sliceV env ti x lo hi mx

noncomputable def fldAddr (f : Field) (a : Addr) : M Value := ret (.pointer (some (addA a f.offset)))
noncomputable def fldK (env : Env) (k : Field → TI → M Value) (o : Option Field) : M Value := match o with
  | none => M.fail
  | some f => M.withO (env.ty.get f.type) (k f)
noncomputable def fieldOf (env : Env) (t : TypeId) (i : Nat) (k : Field → TI → M Value) : M Value :=
  M.withO (env.ty.get t) fun ti => match ti.desc with
  | .struct fs => fldK env k (nthL fs.toList i)
  | _ => M.fail
noncomputable def opFieldAddr (t : TypeId) (x : Operand) (i : Nat) (env : Env) (_ : CallH) (tm : T Value) : M Value :=
  fieldOf env t i fun f te => match Nat.beq te.size 0 with
  | true => M.fail
  | false => M.withO (ev x tm) (ptrK (fldAddr f))

/-- A part of an aggregate. -/
noncomputable def partV (te : TI) (off : Nat) (cs : List Value) : M Value := match isAggD te.desc with
  | true => ret (.agg ⟨takeL te.size (dropL off cs)⟩)
  | false => M.ofO (nthL cs off)
noncomputable def opField (t : TypeId) (x : Operand) (i : Nat) (env : Env) (_ : CallH) (tm : T Value) : M Value :=
  fieldOf env t i fun f te => match ev x tm with
  | some (.agg cs) => partV te f.offset cs.toList
  | _ => M.fail

noncomputable def idxAddr (es : Nat) (n : Nat) (i : Value) (a : Addr) : M Value := match i with
  | .int _ (.ofNat i) => match Nat.blt i n with
    | true => force (Nat.mul i es) fun o => ret (.pointer (some (addA a o)))
    | false => M.fail
  | _ => M.fail
noncomputable def indexAddrV (env : Env) (d : TypeDesc) (x i : Value) : M Value := match d, x with
  | .array n e, .pointer (some a) => M.withO (env.ty.get e) fun te => idxAddr te.size n i a
  | .slice e, .slice (some a) n _ => M.withO (env.ty.get e) fun te => idxAddr te.size n i a
  | _, _ => M.fail
noncomputable def opIndexAddr (t : TypeId) (x i : Operand) (env : Env) (_ : CallH) (tm : T Value) : M Value :=
  M.withO (env.ty.get t) fun ti => M.withO (ev x tm) fun x => M.withO (ev i tm) fun i => indexAddrV env ti.desc x i

noncomputable def indexV (env : Env) (d : TypeDesc) (x i : Value) : M Value := match d, x, i with
  | .array n e, .agg cs, .int _ (.ofNat i) => match Nat.blt i n with
    | true => M.withO (env.ty.get e) fun te => partV te (Nat.mul i te.size) cs.toList
    | false => M.fail
  | .string, .string b, .int _ (.ofNat i) => match nthL b.data.toList i with
    | some c => ret (.int .u8 (Int.ofNat c.toNat))
    | none => M.fail
  | _, _, _ => M.fail
noncomputable def opIndex (t : TypeId) (x i : Operand) (env : Env) (_ : CallH) (tm : T Value) : M Value :=
  M.withO (env.ty.get t) fun ti => M.withO (ev x tm) fun x => M.withO (ev i tm) fun i => indexV env ti.desc x i

noncomputable def opExtract (t : Operand) (i : Nat) (_ : Env) (_ : CallH) (tm : T Value) : M Value := match ev t tm with
  | some (.tuple vs) => M.ofO (nthL vs.toList i)
  | _ => M.fail

/-! ### Builtins and calls -/

noncomputable def lenV : Value → Option Nat
  | .slice _ n _ => some n
  | .string s => some (lenL s.data.toList)
  | _ => none

/-- The cells of the first n elements. -/
noncomputable def firstN (es n : Nat) (v : Value) : M (List Value) := match v with
  | .slice (some a) len _ => match Nat.beq n 0 with
    | true => M.pure []
    | false => match Nat.ble n len with
      | true => loadN a (Nat.mul n es)
      | false => M.fail
  | .slice none _ _ => M.pure []
  | _ => M.fail

noncomputable def freshSlice (es n : Nat) (cells : List Value) : M Value := mapM (pSlice n n) (newCells es false (lenL cells) cells)

/-- The old block of an append that may or may not go on in place: it is used up, unless its capacity is known. -/
noncomputable def consume (b es : Nat) (o : AObj) : M Unit := match o with
  | .cells _ es' tight ro _ => match tight with
    | true => M.pure ()
    | false => match ro with
      | true => M.fail
      | false => match Nat.beq es es' with
        | true => delObj b
        | false => M.fail
  | _ => M.fail

noncomputable def appendTo (es l cap n : Nat) (a : Addr) (new : List Value) : M Value := match Nat.ble (Nat.add l n) cap with
  | true => M.bind (storeN (addA a (Nat.mul l es)) new) fun _ => force (Nat.add l n) fun m => ret (.slice (some a) m cap)
  | false => match a with
    | ⟨b, _, none⟩ => match Nat.beq cap 0 with
      | true => M.bind (getObj b) fun o => M.bind (consume b es o) fun _ => freshSlice es n new
      | false => M.bind (firstN es l (.slice (some a) l cap)) fun old => M.bind (getObj b) fun o => M.bind (consume b es o) fun _ =>
          force (Nat.add l n) fun m => freshSlice es m (appL old new)
    | _ => M.fail

noncomputable def appendK (es n : Nat) (new : List Value) (base : Option Addr) (l cap : Nat) : M Value := match base with
  | none => match Nat.beq cap 0 with
    | true => freshSlice es n new
    | false => M.fail
  | some a => appendTo es l cap n a new
noncomputable def appendN (es bytes n : Nat) (new : List Value) (x : Value) : M Value := match x with
  | .slice base l cap => match Nat.ble (Nat.mul (Nat.add l n) (Nat.add bytes 1)) 1000000 with
    | true => match allCells new with
      | true => match Nat.beq (lenL new) (Nat.mul n es) with
        | true => match Nat.beq n 0 with
          | true => ret x
          | false => appendK es n new base l cap
        | false => M.fail
      | false => M.fail
    | false => M.fail
  | _ => M.fail

noncomputable def appendV (es bytes : Nat) (x y : Value) : M Value :=
  M.withO (lenV y) fun n => M.bind (firstN es n y) fun new => appendN es bytes n new x

noncomputable def isIntD : TypeDesc → Bool
  | .int _ => true
  | _ => false

noncomputable def bAppend (env : Env) (t0 t1 : TypeId) (args : List Value) : M Value :=
  M.withO (env.ty.get t0) fun ti => match ti.desc with
  | .slice e => M.withO (env.ty.get e) fun te => M.withO (env.ty.get t1) fun t1 => match isIntD t1.desc with
    | true => M.fail
    | false => match args with
      | [x, y] => appendV te.size te.bytes x y
      | _ => M.fail
  | _ => M.fail

noncomputable def lenB (env : Env) (d : TypeDesc) (x : Value) : Option Value := match d, x with
  | .string, .string b => ofI .i64 (Int.ofNat (lenL b.data.toList))
  | .slice _, .slice _ n _ => ofI .i64 (Int.ofNat n)
  | .array n _, _ => ofI .i64 (Int.ofNat n)
  | .pointer e, _ => match env.ty.get e with
    | some te => match te.desc with
      | .array n _ => ofI .i64 (Int.ofNat n)
      | _ => none
    | none => none
  | _, _ => none
noncomputable def bLen (env : Env) (t : TypeId) (args : List Value) : M Value := M.withO (env.ty.get t) fun ti => match args with
  | [x] => M.ofO (lenB env ti.desc x)
  | _ => M.fail

noncomputable def capK (n : Nat) : AObj → M Value
  | .cells _ _ tight _ _ => match tight with
    | true => ret (.int .i64 (Int.ofNat n))
    | false => M.fail
  | _ => M.fail
noncomputable def bCap (env : Env) (t : TypeId) (args : List Value) : M Value := M.withO (env.ty.get t) fun ti => match ti.desc, args with
  | .slice _, [.slice none _ n] => ret (.int .i64 (Int.ofNat n))
  | .slice _, [.slice (some ⟨b, _, none⟩) _ n] => M.bind (getObj b) (capK n)
  | _, _ => M.fail

noncomputable def copyTo (n : Nat) (x : Value) (l : List Value) : M Value := match x with
  | .slice (some a) _ _ => match Nat.beq n 0 with
    | true => ret (.int .i64 0)
    | false => M.bind (storeN a l) fun _ => ret (.int .i64 (Int.ofNat n))
  | .slice none _ _ => ret (.int .i64 (Int.ofNat n))
  | _ => M.fail
noncomputable def minN (a b : Nat) : Nat := match Nat.ble a b with
  | true => a
  | false => b
noncomputable def bCopy (env : Env) (t : TypeId) (args : List Value) : M Value := M.withO (env.ty.get t) fun ti => match ti.desc with
  | .slice e => M.withO (env.ty.get e) fun te => match args with
    | [x, y] => M.withO (lenV x) fun d => M.withO (lenV y) fun s => force (minN s d) fun n => M.bind (firstN te.size n y) (copyTo n x)
    | _ => M.fail
  | _ => M.fail

noncomputable def clearV (te : TI) (v : Value) : M Value := match v with
  | .slice none _ _ => ret undef'
  | .slice (some a) n _ => match Nat.beq n 0 with
    | true => ret undef'
    | false => M.bind (storeN a (repL te.zero n)) unitV
  | _ => M.fail

noncomputable def bClear (env : Env) (t : TypeId) (args : List Value) : M Value := M.withO (env.ty.get t) fun ti => match ti.desc with
  | .slice e => M.withO (env.ty.get e) fun te => match args with
    | [x] => clearV te x
    | _ => M.fail
  | _ => M.fail

noncomputable def minV : List Value → Value → Option Value
  | [] => fun x => some x
  | y :: l => fun x => match x, y with
    | .int k a, .int _ b => match iLt b a with
      | true => minV l (.int k b)
      | false => minV l (.int k a)
    | _, _ => none
noncomputable def maxV : List Value → Value → Option Value
  | [] => fun x => some x
  | y :: l => fun x => match x, y with
    | .int k a, .int _ b => match iLt a b with
      | true => maxV l (.int k b)
      | false => maxV l (.int k a)
    | _, _ => none
noncomputable def bMin (args : List Value) : M Value := match args with
  | [] => M.fail
  | x :: l => M.ofO (minV l x)
noncomputable def bMax (args : List Value) : M Value := match args with
  | [] => M.fail
  | x :: l => M.ofO (maxV l x)

noncomputable def builtinV (b : Builtin) (env : Env) (ts : List TypeId) (args : List Value) : M Value := match b with
  | .append => match ts with
    | [t0, t1] => bAppend env t0 t1 args
    | _ => M.fail
  | .len => match ts with
    | [t] => bLen env t args
    | _ => M.fail
  | .copy => match ts with
    | t :: _ => bCopy env t args
    | _ => M.fail
  | .min => bMin args
  | .max => bMax args
  | .cap => match ts with
    | [t] => bCap env t args
    | _ => M.fail
  | .clear => match ts with
    | t :: _ => bClear env t args
    | _ => M.fail
  | _ => M.fail

noncomputable def callV (call : CallH) (args : List Value) (f : Value) : M Value := match f with
  | .func (.func f) first captured => call (.fn f) (appL first.toList (appL args captured.toList))
  | .func (.yield l) _ _ => call (.yield l) args
  | _ => M.fail

noncomputable def calleeK (c : Callee) (ts : Array TypeId) (env : Env) (call : CallH) (tm : T Value) (args : List Value) : M Value := match c with
  | .value f => M.withO (ev f tm) (callV call args)
  | .invoke _ _ => M.fail
  | .builtin b => builtinV b env ts.toList args

noncomputable def opCall (c : Call) (env : Env) (call : CallH) (tm : T Value) : M Value :=
  M.withO (evs c.args.toList tm) (calleeK c.callee c.argTypes env call tm)

noncomputable def opNone (_ : Env) (_ : CallH) (_ : T Value) : M Value := M.fail

noncomputable def execOp (o : Op) : Env → CallH → T Value → M Value := match o with
  | .move x => opMove x
  | .assign x => opMove x
  | .pick c a b => opPick c a b
  | .alloc t => opAlloc t
  | .box _ x => opBox x
  | .build t ps => opBuild t ps
  | .buildSlice t n ps => opBuildSlice t n ps
  | .load t x => opLoad t x
  | .store t x y => opStore t x y
  | .nilCheck x => opNil x
  | .binOp op t x y _ => opBin op t x y
  | .unOp op _ x => opUn op x
  | .convert s d x => opConv s d x
  | .makeFunc f a b => opFunc f a b
  | .makeSlice t l c => opMake t l c
  | .slice t x lo hi mx => opSlice t x lo hi mx
  | .fieldAddr t x i => opFieldAddr t x i
  | .field t x i => opField t x i
  | .indexAddr t x i => opIndexAddr t x i
  | .index t x i => opIndex t x i
  | .extract t i => opExtract t i
  | .call c => opCall c
  | .makeMap _ r => opMap r
  | .range t x => opRange t x
  | .next x b => opNext x b
  | _ => opNone

/-! ### Regions -/

noncomputable def putT (d : Option Tmp) (v : Value) (tm : T Value) : T Value := match d with
  | some d => tm.set d v
  | none => tm

noncomputable def guardV (want : Bool) (o : Option Value) : Bool := match o with
  | some (.bool b) => match b, want with
    | true, true => true
    | false, false => true
    | _, _ => false
  | _ => false
noncomputable def slotOf (o : Option Oper) : Option Tmp := match o with
  | some o => o.dst
  | none => none
noncomputable def readT (tm : T Value) (d : Option Tmp) : Option Value := match d with
  | some d => tm.get d
  | none => none
noncomputable def wantedG (ops : List Oper) (tm : T Value) (g : Option (Nat × Bool)) : Bool := match g with
  | none => true
  | some (j, want) => guardV want (readT tm (slotOf (nthL ops j)))

noncomputable def stepOp (ops : List Oper) (o : Oper) (env : Env) (call : CallH) (tm : T Value) : M (T Value) := match wantedG ops tm o.guard with
  | true => M.bind (execOp o.op env call tm) fun v => M.pure (putT o.dst v tm)
  | false => M.pure (putT o.dst undef' tm)

noncomputable def execOps (ops l : List Oper) : Env → CallH → T Value → M (T Value) :=
  List.rec (motive := fun _ => Env → CallH → T Value → M (T Value)) (fun _ _ tm => M.pure tm)
    (fun o _ f env call tm => M.bind (stepOp ops o env call tm) (f env call)) l

/-! ### Regions whose order is open -/

inductive Cls where
  | pure | load | alloc | writer

noncomputable def clsC (b : Builtin) : Cls := match b with
  | .len | .min | .max => .pure
  | .cap => .writer
  | _ => .writer
noncomputable def clsConv (d : Option TI) : Cls := match d with
  | some ti => match ti.desc with
    | .int _ => .pure
    | _ => .writer
  | none => .writer
noncomputable def cls (o : Op) (env : Env) : Cls := match o with
  | .move _ | .assign _ | .pick _ _ _ | .build _ _ | .nilCheck _ | .binOp _ _ _ _ _ | .unOp _ _ _ | .makeFunc _ _ _
  | .fieldAddr _ _ _ | .field _ _ _ | .indexAddr _ _ _ | .index _ _ _ | .extract _ _ => .pure
  | .load _ _ | .slice _ _ _ _ _ => .load
  | .alloc _ | .box _ _ | .buildSlice _ _ _ | .makeSlice _ _ _ => .alloc
  | .convert _ d _ => clsConv (env.ty.get d)
  | .call c => match c.callee with
    | .builtin b => clsC b
    | _ => .writer
  | _ => .writer

noncomputable def edgeMask : List Edge → List Nat → Nat
  | [] => fun _ => 0
  | e :: l => fun ms => match Region.binds .any e with
    | true => match nthL ms e.on with
      | some m => Nat.lor (Nat.lor (Nat.pow 2 e.on) m) (edgeMask l ms)
      | none => Nat.lor (Nat.pow 2 e.on) (edgeMask l ms)
    | false => edgeMask l ms

/-- Of each operation the set of those that come before it in every order, as bits. -/
noncomputable def masks : List Oper → List Nat → List Nat
  | [] => fun acc => acc
  | o :: l => fun acc => force (edgeMask o.after.toList acc) fun m => masks l (appL acc [m])

/-- An entry of the order in which a region is run here: the operation's number, itself, its mask, its class and, for a load, the writers that it is not ordered with. -/
structure PE where
  i : Nat
  o : Oper
  m : Nat
  cls : Cls

noncomputable def idxed (env : Env) : List Oper → List Nat → Nat → List PE
  | [] => fun _ _ => []
  | o :: l => fun ms i => match ms with
    | [] => []
    | m :: ms => ⟨i, o, m, cls o.op env⟩ :: idxed env l ms (Nat.succ i)

noncomputable def isW (c : Cls) : Bool := match c with
  | .writer => true
  | _ => false

noncomputable def bit (m i : Nat) : Bool := Nat.beq (Nat.mod (shrN m i) 2) 1

/-- Those of the list that the mask holds, but for those already placed. -/
noncomputable def pickM (m placed : Nat) : List PE → List PE
  | [] => []
  | e :: l => match bit m e.i with
    | true => match bit placed e.i with
      | true => pickM m placed l
      | false => e :: pickM m placed l
    | false => pickM m placed l
noncomputable def pickR (placed : Nat) : List PE → List PE
  | [] => []
  | e :: l => match bit placed e.i with
    | true => pickR placed l
    | false => e :: pickR placed l

/-- Writers as early as they can come, everything else as late. -/
noncomputable def order (all : List PE) : List PE → Nat → List PE
  | [] => fun placed => pickR placed all
  | e :: l => fun placed => match isW e.cls with
    | true => appL (pickM e.m placed all) (e :: order all l (Nat.lor (Nat.lor placed e.m) (Nat.pow 2 e.i)))
    | false => order all l placed

noncomputable def planOf (env : Env) (ops : List Oper) : List PE := (fun all => order all all 0) (idxed env ops (masks ops []) 0)

/-- Is the order one that the proof takes? -/
noncomputable def okOrder (all : Nat) : List PE → Nat → Bool
  | [] => fun placed => Nat.beq placed all
  | e :: l => fun placed => match bit placed e.i with
    | true => false
    | false => match Nat.beq (Nat.land e.m placed) e.m with
      | false => false
      | true => match isW e.cls with
        | true => match Nat.beq (Nat.land placed e.m) placed with
          | true => okOrder all l (Nat.lor placed (Nat.pow 2 e.i))
          | false => false
        | false => okOrder all l (Nat.lor placed (Nat.pow 2 e.i))

/-- The writers' records: number, the counter ahead of it, what it wrote. -/
abbrev Recs := List (Nat × Nat × List Nat)

noncomputable def memN (b : Nat) : List Nat → Bool
  | [] => false
  | x :: l => match Nat.beq b x with
    | true => true
    | false => memN b l

/-- No writer that is not ordered with the operation has written block b. -/
noncomputable def clear? (b m : Nat) : Recs → Bool
  | [] => true
  | (i, c, seg) :: l => match bit m i with
    | true => clear? b m l
    | false => match Nat.blt b c with
      | true => match memN b seg with
        | true => false
        | false => clear? b m l
      | false => false

/-- The block that an operation reads, if it reads one. -/
noncomputable def readsV (v : Option Value) : Option Nat := match v with
  | some (.pointer (some a)) => some a.block
  | _ => none
noncomputable def readsS (v : Option Value) : Option Nat := match v with
  | some (.slice (some a) _ _) => some a.block
  | _ => none
noncomputable def readsAt (o : Op) (tm : T Value) : Option Nat := match o with
  | .load _ x => readsV (ev x tm)
  | .slice _ x _ _ _ => readsS (ev x tm)
  | _ => none
noncomputable def clearO (m : Nat) (recs : Recs) (b : Option Nat) : Bool := match b with
  | some b => clear? b m recs
  | none => true
noncomputable def loadOK (o : Op) (m : Nat) (tm : T Value) (recs : Recs) : Bool := clearO m recs (readsAt o tm)

noncomputable def recK (i c : Nat) (log : List Nat) (recs : Recs) (r : Option (T Value × HS)) : Option ((T Value × Recs) × HS) := match r with
  | none => none
  | some (tm, s) => some ((tm, (i, c, s.log) :: recs), { h := s.h, c := s.c, log := appL s.log log })
noncomputable def runW (i : Nat) (recs : Recs) (m : M (T Value)) : M (T Value × Recs) := fun s => recK i s.c s.log recs (m { h := s.h, c := s.c, log := [] })

noncomputable def stepPE (ops : List Oper) (e : PE) (env : Env) (call : CallH) (recs : Recs) (tm : T Value) : M (T Value × Recs) := match e.cls with
  | .writer => runW e.i recs (stepOp ops e.o env call tm)
  | .alloc => runW e.i recs (stepOp ops e.o env call tm)
  | .load => match wantedG ops tm e.o.guard with
    | true => match loadOK e.o.op e.m tm recs with
      | true => mapM (fun tm => (tm, recs)) (stepOp ops e.o env call tm)
      | false => M.fail
    | false => mapM (fun tm => (tm, recs)) (stepOp ops e.o env call tm)
  | _ => mapM (fun tm => (tm, recs)) (stepOp ops e.o env call tm)

noncomputable def execPEs (ops : List Oper) (l : List PE) : Env → CallH → T Value × Recs → M (T Value) :=
  List.rec (motive := fun _ => Env → CallH → T Value × Recs → M (T Value)) (fun _ _ r => M.pure r.1)
    (fun e _ f env call r => M.bind (stepPE ops e env call r.2 r.1) (f env call)) l

/-- The temporaries: who reads or writes what another one writes is ordered with it. -/
noncomputable def tmpsOf : List Operand → List Tmp
  | [] => []
  | x :: l => match x with
    | .tmp t => t :: tmpsOf l
    | _ => tmpsOf l
noncomputable def optL {α : Type} (o : Option α) : List α := match o with
  | some x => [x]
  | none => []
noncomputable def looks (ops : List Oper) (o : Oper) : List Tmp := match o.guard with
  | none => tmpsOf o.op.operands.toList
  | some (j, _) => appL (optL (slotOf (nthL ops j))) (tmpsOf o.op.operands.toList)

/-- Who writes which slot. -/
noncomputable def addW (t i : Nat) (m : T (List Nat)) : T (List Nat) := match m.get t with
  | some l => m.set t (i :: l)
  | none => m.set t [i]
noncomputable def writersOf : List PE → T (List Nat) → T (List Nat)
  | [] => fun m => m
  | e :: l => fun m => match e.o.dst with
    | some d => writersOf l (addW d e.i m)
    | none => writersOf l m

noncomputable def maskOf (ms : List Nat) (i : Nat) : Nat := match nthL ms i with
  | some m => m
  | none => 0
/-- All of the list are ordered with i. -/
noncomputable def ordered (ms : List Nat) (i : Nat) : List Nat → Bool
  | [] => true
  | j :: l => match Nat.beq i j with
    | true => ordered ms i l
    | false => match bit (maskOf ms i) j with
      | true => ordered ms i l
      | false => match bit (maskOf ms j) i with
        | true => ordered ms i l
        | false => false
noncomputable def slotsOK (ms : List Nat) (wr : T (List Nat)) (i : Nat) : List Tmp → Bool
  | [] => true
  | t :: l => match wr.get t with
    | none => slotsOK ms wr i l
    | some js => match ordered ms i js with
      | true => slotsOK ms wr i l
      | false => false
noncomputable def tmpsOK (ops : List Oper) (ms : List Nat) (wr : T (List Nat)) : List PE → Bool
  | [] => true
  | e :: l => match slotsOK ms wr e.i (looks ops e.o) with
    | true => match slotsOK ms wr e.i (optL e.o.dst) with
      | true => tmpsOK ops ms wr l
      | false => false
    | false => false

noncomputable def okPlan (env : Env) (ops : List Oper) (plan : List PE) : Bool := match okOrder (Nat.pred (Nat.pow 2 (lenL ops))) plan 0 with
  | true => (fun all ms => tmpsOK ops ms (writersOf all .nil) all) (idxed env ops (masks ops []) 0) (masks ops [])
  | false => false

/-! ### Code -/

inductive AExit where
  | normal
  | exit (id : Nat)
  | ret

abbrev CodeF := Env → CallH → Nat → T Value → M (AExit × T Value)

noncomputable def normalT (tm : T Value) : M (AExit × T Value) := M.pure (.normal, tm)

noncomputable def drawK (ops : List Oper) (plan : List PE) (b : Bool) (env : Env) (call : CallH) (tm : T Value) : M (T Value) := match b with
  | true => execPEs ops plan env call (tm, [])
  | false => M.fail
noncomputable def sRegion (ops : Array Oper) (draw : Bool) : CodeF := fun env call _ tm => match draw with
  | false => M.bind (execOps ops.toList ops.toList env call tm) normalT
  | true => M.bind (drawK ops.toList (planOf env ops.toList) (okPlan env ops.toList (planOf env ops.toList)) env call tm) normalT

noncomputable def seqK (b : CodeF) (env : Env) (call : CallH) (lf : Nat) (r : AExit × T Value) : M (AExit × T Value) := match r with
  | (.normal, tm) => b env call lf tm
  | (e, tm) => M.pure (e, tm)
noncomputable def sSeq (a b : CodeF) : CodeF := fun env call lf tm => M.bind (a env call lf tm) (seqK b env call lf)

noncomputable def condK (a b : CodeF) (v : Option Value) : CodeF := match v with
  | some (.bool true) => a
  | some (.bool false) => b
  | _ => fun _ _ _ _ => M.fail
noncomputable def sCond (c : Operand) (a b : CodeF) : CodeF := fun env call lf tm => condK a b (ev c tm) env call lf tm

noncomputable def blockK (id : Nat) (r : AExit × T Value) : M (AExit × T Value) := match r with
  | (.exit i, tm) => match Nat.beq i id with
    | true => M.pure (.normal, tm)
    | false => M.pure (.exit i, tm)
  | r => M.pure r
noncomputable def sBlock (id : Nat) (a : CodeF) : CodeF := fun env call lf tm => M.bind (a env call lf tm) (blockK id)

noncomputable def loopK (again : T Value → M (AExit × T Value)) (r : AExit × T Value) : M (AExit × T Value) := match r with
  | (.normal, tm) => again tm
  | r => M.pure r
noncomputable def iter (f : T Value → M (AExit × T Value)) (n : Nat) : T Value → M (AExit × T Value) :=
  Nat.rec (motive := fun _ => T Value → M (AExit × T Value)) (fun _ => M.fail) (fun _ r tm => M.bind (f tm) (loopK r)) n
noncomputable def sLoop (a : CodeF) : CodeF := fun env call lf tm => iter (a env call lf) lf tm

noncomputable def sFail : CodeF := fun _ _ _ _ => M.fail
noncomputable def sExit (e : AExit) : CodeF := fun _ _ _ tm => M.pure (e, tm)

/-- A call of a function value that is no yield. -/
noncomputable def callFn (call : CallH) (args : List Value) (f : Value) : M Value := match f with
  | .func (.func f) xs ys => call (.fn f) (appL xs.toList (appL args ys.toList))
  | _ => M.fail

noncomputable def rangeK (l : Nat) (tm : T Value) (o : AObj) : M (AExit × T Value) := match o with
  | .loop _ => M.bind (delObj l) fun _ => normalT tm
  | _ => M.fail

/-- A range over a function: no round leaves but at its end. -/
noncomputable def sRange (f : Operand) (ps : Array Tmp) (a b : Code) : CodeF := fun _ call _ tm => M.withO (ev f tm) fun f =>
  M.bind (newObj (.loop { tmps := tm, params := ps.toList, assign := a, body := b })) fun l =>
  M.bind (callFn call [.func (.yield l) #[] #[]] f) fun _ => M.bind (getObj l) (rangeK l tm)

noncomputable def execC (c : Code) : CodeF := Code.rec (motive := fun _ => CodeF)
  (skip := sExit .normal)
  (region := fun _ ops d => sRegion ops d)
  (seq := fun _ _ a b => sSeq a b)
  (cond := fun c _ _ a b => sCond c a b)
  (block := fun id _ a => sBlock id a)
  (loop := fun _ a => sLoop a)
  (rangeFunc := fun f ps a b _ _ => sRange f ps a b)
  (exit := fun id => sExit (.exit id))
  (scope := fun _ _ => sFail)
  (label := fun _ => sFail)
  (goto := fun _ => sFail)
  (ret := sExit .ret)
  (refuse := fun _ => sFail) c

noncomputable def initT : List Value → T Value → Nat → T Value := T.write

noncomputable def resV (rs : List ResultVar) (tm : T Value) : Option (List Value) := match rs with
  | [] => some []
  | r :: l => match r with
    | .tmp t => match evT (tm.get t) with
      | none => none
      | some v => match resV l tm with
        | none => none
        | some vs => some (v :: vs)
    | .cell _ _ => none

noncomputable def resM (env : Env) (tm : T Value) : List ResultVar → M (List Value)
  | [] => M.pure []
  | r :: l => match r with
    | .tmp t => M.withO (evT (tm.get t)) fun v => mapM (fun vs => v :: vs) (resM env tm l)
    | .cell a t => M.withO (env.ty.get t) fun ti => M.withO (evT (tm.get a)) fun p => M.bind (ptrK (loadV ti) p) fun v => mapM (fun vs => v :: vs) (resM env tm l)

noncomputable def tupleOf (l : List Value) : M Value := match l with
  | [v] => ret v
  | l => ret (.tuple ⟨l⟩)

noncomputable def bodyK (env : Env) (rs : List ResultVar) (r : AExit × T Value) : M Value := match r with
  | (.normal, tm) => M.bind (resM env tm rs) tupleOf
  | (.ret, tm) => M.bind (resM env tm rs) tupleOf
  | _ => M.fail

noncomputable def runFn (env : Env) (lf : Nat) (call : CallH) (args : List Value) (fn : Func) : M Value := match fn.body with
  | some c => match Nat.ble (lenL args) fn.ntmps with
    | true => M.bind (execC c env call lf (T.ofList args)) (bodyK env fn.results.toList)
    | false => M.fail
  | none => M.fail

noncomputable def setTs : List Tmp → List Value → T Value → Option (T Value)
  | [] => fun vs tm => match vs with
    | [] => some tm
    | _ :: _ => none
  | p :: ps => fun vs tm => match vs with
    | [] => none
    | v :: vs => setTs ps vs (tm.set p v)

/-- What stands for a loop while a round of it runs. -/
def busyO : AObj := .cells 0 0 true true .nil
noncomputable def roundK (l : Nat) (o : AObj) (r : AExit × T Value) : M Value := match r with
  | (.normal, _) => M.bind (setObj l o) fun _ => ret (.bool true)
  | _ => M.fail
noncomputable def roundR (env : Env) (lf : Nat) (call : CallH) (l : Nat) (body : Code) (tm : T Value) (o : AObj) : M Value := match o with
  | .loop r => M.bind (setObj l busyO) fun _ => M.bind (execC body env call lf tm) (roundK l (.loop r))
  | _ => M.fail
noncomputable def roundB (env : Env) (lf : Nat) (call : CallH) (l : Nat) (body : Code) (q : AExit × T Value) : M Value := match q with
  | (.normal, tm) => M.bind (getObj l) (roundR env lf call l body tm)
  | _ => M.fail
noncomputable def runRound (env : Env) (lf : Nat) (call : CallH) (args : List Value) (l : Nat) (o : AObj) : M Value := match o with
  | .loop r => M.withO (setTs r.params args r.tmps) fun tm => M.bind (execC r.assign env call lf tm) (roundB env lf call l r.body)
  | _ => M.fail

noncomputable def callK (env : Env) (lf : Nat) (call : CallH) (t : Tgt) (args : List Value) : M Value := match t with
  | .fn f => M.withO (env.fn.get f) (runFn env lf call args)
  | .yield l => M.bind (getObj l) (runRound env lf call args l)

/-- Calls of at most n levels, over a table of answers for some functions. -/
noncomputable def callN (env : Env) (lf : Nat) (n : Nat) : CallH :=
  Nat.rec (motive := fun _ => CallH) (fun _ _ => M.fail) (fun _ r t args => callK env lf r t args) n

noncomputable def s0 : HS := { h := .nil, c := 0, log := [] }

noncomputable def isTrue (r : Option (Value × HS)) : Bool := match r with
  | some (.bool true, _) => true
  | _ => false

end Go.Ax
