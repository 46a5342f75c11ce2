/- The abstract executor: how its heap stands for the model's memory.
Conditions: none. -/
import Derived.Below
import Derived.Laws.Cells
import Derived.Laws.IdiomCopy
import Derived.LoopNIn
import Derived.OrdersIn
import Derived.RangeFuncIn
import Derived.Test.YtjlhclmgjdabfaaGreatAxG
import Derived.Test.YtjlhclmgjdabfaaGreatAxI
namespace Go.Ax
set_option linter.unusedVariables false
set_option linter.unusedSimpArgs false
set_option linter.unusedSectionVars false
open Go.RowKit (Below)

/-- Where a block of the executor lies: block, first cell, how many cells are its own, the cells of an element, whether its capacity is known. -/
structure Pl where
  blk : Nat
  base : Nat
  ext : Nat
  es : Nat
  tight : Bool

abbrev Map := Nat → Option Pl

mutual
inductive VR (φ : Map) : Value → Value → Prop
  | bool (b : Bool) : VR φ (.bool b) (.bool b)
  | int (k : IntKind) (n : Int) : VR φ (.int k n) (.int k n)
  | str (s : ByteArray) : VR φ (.string s) (.string s)
  | nilp : VR φ (.pointer none) (.pointer none)
  | ptr (b off : Nat) (p : Pl) (h : φ b = some p) : VR φ (.pointer (some ⟨b, off, none⟩)) (.pointer (some ⟨p.blk, p.base + off, none⟩))
  | nils (l c : Nat) (h : l ≤ c) : VR φ (.slice none l c) (.slice none l c)
  | sl (b off l c c' : Nat) (p : Pl) (h : φ b = some p) (h0 : l ≤ c) (h1 : c ≤ c') (h2 : c' = c ∨ (p.tight = false ∧ off + c' * p.es ≤ p.ext)) :
      VR φ (.slice (some ⟨b, off, none⟩) l c) (.slice (some ⟨p.blk, p.base + off, none⟩) l c')
  | sle (a a' : Addr) : VR φ (.slice (some a) 0 0) (.slice (some a') 0 0)
  | nilf : VR φ .nilFunc .nilFunc
  | nili : VR φ .nilIface .nilIface
  | nilm : VR φ (.map none) (.map none)
  | map (b : Nat) (p : Pl) (h : φ b = some p) : VR φ (.map (some b)) (.map (some p.blk))
  | func (f : FuncId) (xs ys xs' ys' : List Value) (h : VRs φ xs xs') (h' : VRs φ ys ys') : VR φ (.func (.func f) ⟨xs⟩ ⟨ys⟩) (.func (.func f) ⟨xs'⟩ ⟨ys'⟩)
  | yield (l : Nat) (p : Pl) (h : φ l = some p) : VR φ (.func (.yield l) #[] #[]) (.func (.yield p.blk) #[] #[])
  | agg (xs ys : List Value) (h : VRs φ xs ys) : VR φ (.agg ⟨xs⟩) (.agg ⟨ys⟩)
  | tuple (xs ys : List Value) (h : VRs φ xs ys) : VR φ (.tuple ⟨xs⟩) (.tuple ⟨ys⟩)
inductive VRs (φ : Map) : List Value → List Value → Prop
  | nil : VRs φ [] []
  | cons {v u : Value} {l m : List Value} (h : VR φ v u) (hs : VRs φ l m) : VRs φ (v :: l) (u :: m)
end

def Le (φ ψ : Map) : Prop := ∀ b p, φ b = some p → ψ b = some p
theorem Le.refl (φ : Map) : Le φ φ := fun _ _ h => h
theorem Le.trans {φ ψ χ : Map} (h : Le φ ψ) (h' : Le ψ χ) : Le φ χ := fun b p e => h' b p (h b p e)

mutual
theorem VR.mono {φ ψ : Map} (hl : Le φ ψ) : ∀ {v u : Value}, VR φ v u → VR ψ v u
  | _, _, .bool b => .bool b
  | _, _, .int k n => .int k n
  | _, _, .str s => .str s
  | _, _, .nilp => .nilp
  | _, _, .ptr b off p h => .ptr b off p (hl _ _ h)
  | _, _, .nils l c h => .nils l c h
  | _, _, .sl b off l c c' p h h0 h1 h2 => .sl b off l c c' p (hl _ _ h) h0 h1 h2
  | _, _, .sle a a' => .sle a a'
  | _, _, .nilf => .nilf
  | _, _, .nili => .nili
  | _, _, .nilm => .nilm
  | _, _, .map b p h => .map b p (hl _ _ h)
  | _, _, .func f _ _ _ _ h h' => .func f _ _ _ _ (VRs.mono hl h) (VRs.mono hl h')
  | _, _, .yield l p h => .yield l p (hl _ _ h)
  | _, _, .agg _ _ h => .agg _ _ (VRs.mono hl h)
  | _, _, .tuple _ _ h => .tuple _ _ (VRs.mono hl h)
theorem VRs.mono {φ ψ : Map} (hl : Le φ ψ) : ∀ {l m : List Value}, VRs φ l m → VRs ψ l m
  | _, _, .nil => .nil
  | _, _, .cons h hs => .cons (VR.mono hl h) (VRs.mono hl hs)
end

section
variable {φ : Map}
theorem VRs.length {l m : List Value} (h : VRs φ l m) : l.length = m.length := by
  induction l generalizing m with
  | nil => cases h; rfl
  | cons v l ih => cases h with | cons h hs => simp [ih hs]
theorem VRs.append {l m l' m' : List Value} (h : VRs φ l m) (h' : VRs φ l' m') : VRs φ (l ++ l') (m ++ m') := by
  induction l generalizing m with
  | nil => cases h; exact h'
  | cons v l ih => cases h with | cons h hs => exact .cons h (ih hs)
theorem VRs.get {l m : List Value} (h : VRs φ l m) {i : Nat} {v : Value} (hi : l[i]? = some v) : ∃ u, m[i]? = some u ∧ VR φ v u := by
  induction l generalizing m i with
  | nil => simp at hi
  | cons x l ih =>
    cases h with
    | cons h hs =>
      cases i with
      | zero => simp at hi; subst hi; exact ⟨_, by simp, h⟩
      | succ i => simp at hi; obtain ⟨u, h1, h2⟩ := ih hs hi; exact ⟨u, by simpa using h1, h2⟩
theorem VRs.of_get {l m : List Value} (hl : l.length = m.length) (h : ∀ (i : Nat) v u, l[i]? = some v → m[i]? = some u → VR φ v u) : VRs φ l m := by
  induction l generalizing m with
  | nil => cases m with
    | nil => exact .nil
    | cons => simp at hl
  | cons v l ih => cases m with
    | nil => simp at hl
    | cons u m => exact .cons (h 0 v u (by simp) (by simp)) (ih (by simpa using hl) fun i x y hx hy => h (i + 1) x y (by simpa using hx) (by simpa using hy))
theorem VRs.take {l m : List Value} (h : VRs φ l m) (n : Nat) : VRs φ (l.take n) (m.take n) := by
  induction n generalizing l m with
  | zero => simp; exact .nil
  | succ n ih => cases h with
    | nil => simp; exact .nil
    | cons h hs => simp; exact .cons h (ih hs)
theorem VRs.drop {l m : List Value} (h : VRs φ l m) (n : Nat) : VRs φ (l.drop n) (m.drop n) := by
  induction n generalizing l m with
  | zero => simpa using h
  | succ n ih => cases h with
    | nil => simp; exact .nil
    | cons h hs => simp; exact ih hs

theorem VR.cells {v u : Value} (h : VR φ v u) : VRs φ (cellsOf v) u.cells.toList := by
  cases h with
  | agg xs ys h => exact h
  | bool b => exact .cons (.bool b) .nil
  | int k n => exact .cons (.int k n) .nil
  | str s => exact .cons (.str s) .nil
  | nilp => exact .cons .nilp .nil
  | ptr b off p h => exact .cons (.ptr b off p h) .nil
  | nils l c h => exact .cons (.nils l c h) .nil
  | sl b off l c c' p h h0 h1 h2 => exact .cons (.sl b off l c c' p h h0 h1 h2) .nil
  | sle x y => exact .cons (.sle x y) .nil
  | nilf => exact .cons .nilf .nil
  | nili => exact .cons .nili .nil
  | nilm => exact .cons .nilm .nil
  | map b p h => exact .cons (.map b p h) .nil
  | func f xs ys xs' ys' h h' => exact .cons (.func f xs ys xs' ys' h h') .nil
  | yield l p h => exact .cons (.yield l p h) .nil
  | tuple xs ys h => exact .cons (.tuple xs ys h) .nil

theorem oneCell_of {v u : Value} (h : VR φ v u) (hc : isCell v = true) : u.oneCell' = true := by
  cases h <;> first | rfl | simp [isCell] at hc
end

/-- A constant stands for itself. -/
theorem constOK1_VR {φ : Map} {v : Value} (h : constOK1 v = true) : VR φ v v := by
  unfold constOK1 at h
  split at h
  · exact .bool _
  · exact .int _ _
  · exact .str _
  · exact .nilp
  · exact .nils _ _ (Nat.le_refl _)
  · exact .nilf
  · exact .nili
  · exact .nilm
  · cases h

theorem constOK_VR {φ : Map} {v : Value} (h : constOK v = true) : VR φ v v := by
  unfold constOK at h
  split at h
  · rename_i cs
    obtain ⟨l⟩ := cs
    refine .agg l l ?_
    simp only [List.all_eq_true] at h
    refine VRs.of_get rfl fun i v u hv hu => ?_
    rw [hv] at hu; injection hu with hu; subst hu
    exact constOK1_VR (h v (List.mem_of_getElem? hv))
  · exact constOK1_VR h

/-! ### The heap -/

def Pl.at (p : Pl) (i : Nat) : Addr := ⟨p.blk, p.base + i, none⟩

structure Live (φ : Map) (B : Nat) (w : World) (p : Pl) (size es : Nat) (tight ro : Bool) (cs : T Value) : Prop where
  hes : p.es = es
  htight : p.tight = tight
  hsize : size ≤ p.ext
  val : ∀ i, i < size → ∃ v u, cs.get i = some v ∧ w.cell? (p.at i) = some u ∧ VR φ v u
  cell : ∀ i, i < p.ext → (w.cell? (p.at i)).isSome = true
  own : ro = false → B ≤ p.blk ∧ ∀ i, i < p.ext → w.frozen? (p.at i) = false

def Apart (p q : Pl) : Prop := p.ext = 0 ∨ q.ext = 0 ∨ p.blk ≠ q.blk ∨ p.base + p.ext ≤ q.base ∨ q.base + q.ext ≤ p.base

def AObj.isCells : AObj → Bool
  | .cells .. => true
  | _ => false

/-- The temporaries. -/
structure TR (φ : Map) (tm : T Value) (tmps : Array Value) : Prop where
  val : ∀ t v, tm.get t = some v → ∃ u, tmps[t]? = some u ∧ VR φ v u
  none : ∀ t, tm.get t = none → tmps.getD t undef = undef

def dstLt (n : Nat) (d : Option Tmp) : Bool := match d with
  | some d => decide (d < n)
  | none => true
def opsLt (n : Nat) (ops : List Oper) : Bool := ops.all fun o => dstLt n o.dst
/-- All slots that the code writes are there. -/
def codeLt (n : Nat) : Code → Bool
  | .region _ ops _ => opsLt n ops.toList
  | .seq a b => codeLt n a && codeLt n b
  | .cond _ a b => codeLt n a && codeLt n b
  | .block _ a => codeLt n a
  | .loop a => codeLt n a
  | .rangeFunc _ ps a b => ps.toList.all (fun t => decide (t < n)) && codeLt n a && codeLt n b
  | .scope a => codeLt n a
  | _ => true

/-- Code without a range over a function. -/
def plainC : Code → Bool
  | .seq a b => plainC a && plainC b
  | .cond _ a b => plainC a && plainC b
  | .block _ a => plainC a
  | .loop a => plainC a
  | .rangeFunc _ _ _ _ => false
  | _ => true

structure LoopOK (φ : Map) (r : LoopR) (L : Loop) : Prop where
  state : L.state = .ready
  pending : L.pending = none
  params : L.params.toList = r.params
  lt : ∀ t ∈ r.params, t < L.tmps.size
  assign : L.assign = r.assign
  body : L.body = r.body
  tmps : TR φ r.tmps L.tmps
  plain : plainC r.assign = true ∧ plainC r.body = true
  codes : codeLt L.tmps.size r.assign = true ∧ codeLt L.tmps.size r.body = true

/-- A world to measure by, and blocks that must not be touched. -/
structure Base extends World where
  prot : Nat → Option Obj

def ProtObj (o : Obj) : Prop := o = .deferred (some []) ∨ ∃ L, o = .loop L ∧ L.state = .busy
theorem ProtObj.notCells {o : Obj} (h : ProtObj o) : ∀ cs e f, o ≠ .cells cs e f := by
  rcases h with h | ⟨L, h, _⟩ <;> subst h <;> intro cs e f hh <;> cases hh

def Dummy (p : Pl) : Prop := p.ext = 0 ∧ p.es = 0 ∧ p.tight = true

def AObj.isMap : AObj → Bool
  | .map => true
  | .iter => true
  | _ => false
theorem AObj.isMap_cells {o : AObj} (h : o.isMap = true) : o.isCells = false := by cases o <;> first | rfl | cases h
def MapObj (o : Obj) : Prop := o = .map #[] 0 ∨ ∃ m, o = .mapIter m 0 #[] 0
theorem MapObj.notCells {o : Obj} (h : MapObj o) : ∀ cs e f, o ≠ .cells cs e f := by
  rcases h with h | ⟨m, h⟩ <;> subst h <;> intro cs e f hh <;> cases hh
theorem MapObj.notLoop {o : Obj} (h : MapObj o) : ∀ L, o ≠ .loop L := by
  rcases h with h | ⟨m, h⟩ <;> subst h <;> intro L hh <;> cases hh
def IsMap (B : Nat) (w : World) (q : Nat) : Prop := B ≤ q ∧ w.heap[q]? = some (.map #[] 0)
def MapOK (B : Nat) (w : World) (q : Nat) : AObj → Prop
  | .map => IsMap B w q
  | .iter => B ≤ q ∧ (w.heap[q]? = some (.mapIter none 0 #[] 0) ∨ ∃ m, w.heap[q]? = some (.mapIter (some m) 0 #[] 0) ∧ IsMap B w m)
  | _ => False
theorem MapOK.keep {B : Nat} {w w' : World} {q : Nat} {o : AObj} (h : MapOK B w q o) (hk : ∀ (k : Nat) (x : Obj), w.heap[k]? = some x → MapObj x → w'.heap[k]? = some x) : MapOK B w' q o := by
  cases o with
  | map => exact ⟨h.1, hk _ _ h.2 (.inl rfl)⟩
  | iter =>
    refine ⟨h.1, ?_⟩
    rcases h.2 with h1 | ⟨m, h1, h2⟩
    · exact .inl (hk _ _ h1 (.inr ⟨_, rfl⟩))
    · exact .inr ⟨m, hk _ _ h1 (.inr ⟨_, rfl⟩), h2.1, hk _ _ h2.2 (.inl rfl)⟩
  | cells => exact h.elim
  | loop => exact h.elim
theorem MapOK.obj {B : Nat} {w : World} {q : Nat} {o : AObj} (h : MapOK B w q o) : ∃ x, w.heap[q]? = some x ∧ MapObj x := by
  cases o with
  | map => exact ⟨_, h.2, .inl rfl⟩
  | iter =>
    rcases h.2 with h1 | ⟨m, h1, _⟩
    · exact ⟨_, h1, .inr ⟨_, rfl⟩⟩
    · exact ⟨_, h1, .inr ⟨_, rfl⟩⟩
  | cells => exact h.elim
  | loop => exact h.elim

structure Rel (φ : Map) (w0 : Base) (w : World) (h : T AObj) : Prop where
  below : Below w0.heap.size w0.toWorld w
  live : ∀ b size es tight ro cs, h.get b = some (.cells size es tight ro cs) → ∃ p, φ b = some p ∧ Live φ w0.heap.size w p size es tight ro cs
  apart : ∀ b b' s e t cs s' e' t' r' cs' p p', h.get b = some (.cells s e t false cs) → h.get b' = some (.cells s' e' t' r' cs') → b ≠ b' → φ b = some p → φ b' = some p' → Apart p p'
  loop : ∀ b r, h.get b = some (.loop r) → ∃ p L, φ b = some p ∧ (w0.heap.size ≤ p.blk ∧ Dummy p) ∧ w.heap[p.blk]? = some (.loop L) ∧ LoopOK φ r L
  prot : ∀ k o, w0.prot k = some o → ProtObj o ∧ w0.heap.size ≤ k ∧ w.heap[k]? = some o
  objs : ∀ b b' o o' p p', h.get b = some o → h.get b' = some o' → o.isCells = false → o'.isCells = false → b ≠ b' → φ b = some p → φ b' = some p' → p.blk ≠ p'.blk
  maps : ∀ b o, h.get b = some o → o.isMap = true → ∃ p, φ b = some p ∧ (p.base = 0 ∧ Dummy p) ∧ MapOK w0.heap.size w p.blk o

theorem TR.mono {φ ψ : Map} (hl : Le φ ψ) {tm : T Value} {tmps : Array Value} (h : TR φ tm tmps) : TR ψ tm tmps :=
  ⟨fun t v e => let ⟨u, h1, h2⟩ := h.val t v e; ⟨u, h1, h2.mono hl⟩, h.none⟩

theorem LoopOK.mono {φ ψ : Map} (hl : Le φ ψ) {r : LoopR} {L : Loop} (h : LoopOK φ r L) : LoopOK ψ r L :=
  ⟨h.state, h.pending, h.params, h.lt, h.assign, h.body, h.tmps.mono hl, h.plain, h.codes⟩

/-- The blocks numbered from lo to hi have no place yet. -/
def Fr (φ : Map) (lo hi : Nat) : Prop := ∀ b, lo ≤ b → b < hi → φ b = none
/-- The map has grown by these blocks alone. -/
def Gr (φ ψ : Map) (lo hi : Nat) : Prop := ∀ b, (b < lo ∨ hi ≤ b) → ψ b = φ b

theorem Gr.refl (φ : Map) (lo hi : Nat) : Gr φ φ lo hi := fun _ _ => rfl
theorem Gr.trans {φ ψ χ : Map} {a b c : Nat} (h : Gr φ ψ a b) (h' : Gr ψ χ b c) (hab : a ≤ b) (hbc : b ≤ c) : Gr φ χ a c :=
  fun x hx => by rw [h' x (by omega), h x (by omega)]
theorem Gr.mono {φ ψ : Map} {a b a' b' : Nat} (h : Gr φ ψ a b) (h1 : a' ≤ a) (h2 : b ≤ b') : Gr φ ψ a' b' := fun x hx => h x (by omega)
theorem Fr.after {φ ψ : Map} {a b c : Nat} (h : Fr φ a c) (hg : Gr φ ψ a b) (hab : a ≤ b) : Fr ψ b c := fun x h1 h2 => by rw [hg x (by omega)]; exact h x (by omega) h2
theorem Fr.mono {φ : Map} {a b a' b' : Nat} (h : Fr φ a b) (h1 : a ≤ a') (h2 : b' ≤ b) : Fr φ a' b' := fun x hx hy => h x (by omega) (by omega)

def put (φ : Map) (c : Nat) (p : Pl) : Map := fun b => if b = c then some p else φ b
theorem put_self (φ : Map) (c : Nat) (p : Pl) : put φ c p c = some p := by simp [put]
theorem put_ne (φ : Map) {c b : Nat} (p : Pl) (h : b ≠ c) : put φ c p b = φ b := by simp [put, h]
theorem put_le {φ : Map} {c : Nat} (p : Pl) (h : φ c = none) : Le φ (put φ c p) := fun b q e => by
  by_cases hb : b = c
  · subst hb; rw [h] at e; cases e
  · rw [put_ne _ _ hb]; exact e
theorem put_gr (φ : Map) (c : Nat) (p : Pl) : Gr φ (put φ c p) c (c + 1) := fun b hb => put_ne _ _ (by omega)

theorem at_add (p : Pl) (i : Nat) (b off : Nat) (h : b = p.blk) : (⟨b, p.base + off, none⟩ : Addr).add i = p.at (off + i) := by
  subst h
  unfold Addr.add Pl.at
  split
  · rename_i e; subst e; rfl
  · simp [Nat.add_assoc]

theorem Live.lt {φ : Map} {B : Nat} {w : World} {p : Pl} {size es : Nat} {tight ro : Bool} {cs : T Value} (h : Live φ B w p size es tight ro cs) (i : Nat) (hi : i < p.ext) : p.blk < w.heap.size := by
  have := h.cell i hi
  obtain ⟨u, hu⟩ := Option.isSome_iff_exists.1 this
  exact World.block_lt_of_cell? w _ hu

/-- A change of the memory that leaves all that a live block reads. -/
theorem Live.keep {φ ψ : Map} {B : Nat} {w w' : World} {p : Pl} {size es : Nat} {tight ro : Bool} {cs : T Value} (hl : Le φ ψ) (h : Live φ B w p size es tight ro cs)
    (hc : ∀ i, i < p.ext → w'.cell? (p.at i) = w.cell? (p.at i)) (hf : ∀ i, i < p.ext → w'.frozen? (p.at i) = w.frozen? (p.at i)) : Live ψ B w' p size es tight ro cs where
  hes := h.hes
  htight := h.htight
  hsize := h.hsize
  val i hi := by
    obtain ⟨v, u, h1, h2, h3⟩ := h.val i hi
    exact ⟨v, u, h1, by rw [hc i (by have := h.hsize; omega)]; exact h2, h3.mono hl⟩
  cell i hi := by rw [hc i hi]; exact h.cell i hi
  own hr := ⟨(h.own hr).1, fun i hi => by rw [hf i hi]; exact (h.own hr).2 i hi⟩

/-- A new block of cells. -/
theorem Rel.new {φ : Map} {w0 : Base} {w : World} {h : T AObj} (r : Rel φ w0 w h) {c : Nat} (hc : φ c = none) (es : Nat) (tight : Bool) (vs : List Value) (us ext : List Value) (e : TypeId)
    (hv : VRs φ vs us) (t : T Value) (ht : ∀ i, i < vs.length → t.get i = vs[i]?) :
    Rel (put φ c ⟨w.heap.size, 0, (us ++ ext).length, es, tight⟩) w0 (w.alloc (.cells ⟨us ++ ext⟩ e)) (h.set c (.cells vs.length es tight false t)) := by
  have hle := put_le ⟨w.heap.size, 0, (us ++ ext).length, es, tight⟩ hc
  have hsz : w0.heap.size ≤ w.heap.size := r.below.size
  have hnew : ∀ i, (w.alloc (.cells ⟨us ++ ext⟩ e)).cell? (Pl.at ⟨w.heap.size, 0, (us ++ ext).length, es, tight⟩ i) = (us ++ ext)[i]? := by
    intro i; unfold Pl.at; rw [Nat.zero_add, World.cell?_alloc_new]; simp
  have hold : ∀ (p : Pl) i, i < p.ext → p.blk < w.heap.size → (w.alloc (.cells ⟨us ++ ext⟩ e)).cell? (p.at i) = w.cell? (p.at i) := fun p i _ hb => World.cell?_alloc_lt _ _ _ hb
  have hfro : ∀ a, (w.alloc (.cells ⟨us ++ ext⟩ e)).frozen? a = w.frozen? a := fun a => Go.RowKit.frozen?_alloc_cells _ _ _ _
  have hobj : ∀ k, k < w.heap.size → (w.alloc (.cells ⟨us ++ ext⟩ e)).heap[k]? = w.heap[k]? := fun k hk => Below.heap_alloc _ _ _ hk
  refine ⟨r.below.alloc hsz _, ?_, ?_, ?_, ?_, ?_, fun b o hb ho => ?mp⟩
  case mp =>
    rw [T.get_set] at hb
    by_cases e' : b = c
    · rw [if_pos e'] at hb; injection hb with hb; subst hb; cases ho
    · rw [if_neg e'] at hb
      obtain ⟨p, h1, h2, h3⟩ := r.maps _ _ hb ho
      exact ⟨p, by rw [put_ne _ _ e']; exact h1, h2, MapOK.keep h3 fun k x hk _ => by rw [hobj _ (Array.getElem?_eq_some_iff.1 hk).1]; exact hk⟩
  · intro b size es' tight' ro cs hb
    rw [T.get_set] at hb
    by_cases e' : b = c
    · rw [if_pos e'] at hb
      injection hb with hb; injection hb with h1 h2 h3 h4 h5
      subst h1; subst h2; subst h3; subst h4; subst h5; subst e'
      refine ⟨_, put_self _ _ _, ⟨rfl, rfl, ?_, fun i hi => ?_, fun i hi => ?_, fun _ => ⟨hsz, fun i hi => ?_⟩⟩⟩
      · have := hv.length; simp; omega
      · have hx : vs[i]? = some vs[i] := List.getElem?_eq_getElem hi
        obtain ⟨u, hu, hvu⟩ := hv.get hx
        refine ⟨vs[i], u, by rw [ht i hi, hx], ?_, hvu.mono hle⟩
        rw [hnew, List.getElem?_append_left (by have := hv.length; omega)]; exact hu
      · rw [hnew]; simp only at hi; rw [List.getElem?_eq_getElem hi]; rfl
      · rw [hfro]; unfold Pl.at World.frozen?; rw [Array.getElem?_eq_none (Nat.le_refl _)]
    · rw [if_neg e'] at hb
      obtain ⟨p, hp, hl⟩ := r.live _ _ _ _ _ _ hb
      refine ⟨p, by rw [put_ne _ _ e']; exact hp, hl.keep hle (fun i hi => hold p i hi (hl.lt i hi)) (fun i hi => hfro _)⟩
  · intro b b' s1 e1 t1 cs1 s2 e2 t2 r2 cs2 p p' hb hb' hne hp hp'
    rw [T.get_set] at hb hb'
    by_cases h1 : b = c
    · rw [if_pos h1] at hb
      have h2 : b' ≠ c := fun e' => hne (by rw [h1, e'])
      rw [if_neg h2] at hb'
      rw [h1, put_self] at hp; injection hp with hp; subst hp
      rw [put_ne _ _ h2] at hp'
      obtain ⟨q, hq, hl⟩ := r.live _ _ _ _ _ _ hb'
      rw [hp'] at hq; injection hq with hq; subst hq
      by_cases hz : 0 < p'.ext
      · exact .inr (.inr (.inl (by have := hl.lt 0 hz; simp only; omega)))
      · exact .inr (.inl (by omega))
    · rw [if_neg h1] at hb
      rw [put_ne _ _ h1] at hp
      by_cases h2 : b' = c
      · rw [h2, put_self] at hp'; injection hp' with hp'; subst hp'
        obtain ⟨q, hq, hl⟩ := r.live _ _ _ _ _ _ hb
        rw [hp] at hq; injection hq with hq; subst hq
        by_cases hz : 0 < p.ext
        · exact .inr (.inr (.inl (by have := hl.lt 0 hz; simp only; omega)))
        · exact .inl (by omega)
      · rw [if_neg h2] at hb'; rw [put_ne _ _ h2] at hp'
        exact r.apart _ _ _ _ _ _ _ _ _ _ _ _ _ hb hb' hne hp hp'
  · intro b r' hb
    rw [T.get_set] at hb
    by_cases e' : b = c
    · rw [if_pos e'] at hb; cases hb
    · rw [if_neg e'] at hb
      obtain ⟨p, L, h1, h2, h3, h4⟩ := r.loop _ _ hb
      exact ⟨p, L, by rw [put_ne _ _ e']; exact h1, h2, by rw [hobj _ (Array.getElem?_eq_some_iff.1 h3).1]; exact h3, h4.mono hle⟩
  · intro k o hk
    obtain ⟨h0, h1, h2⟩ := r.prot k o hk
    exact ⟨h0, h1, by rw [hobj _ (Array.getElem?_eq_some_iff.1 h2).1]; exact h2⟩
  · intro b b' o o' p p' hb hb' ho ho' hne hp hp'
    rw [T.get_set] at hb hb'
    by_cases h1 : b = c
    · rw [if_pos h1] at hb; injection hb with hb; subst hb; simp [AObj.isCells] at ho
    · by_cases h2 : b' = c
      · rw [if_pos h2] at hb'; injection hb' with hb'; subst hb'; simp [AObj.isCells] at ho'
      · rw [if_neg h1] at hb; rw [if_neg h2] at hb'; rw [put_ne _ _ h1] at hp; rw [put_ne _ _ h2] at hp'
        exact r.objs _ _ _ _ _ _ hb hb' ho ho' hne hp hp'

/-- A draw turns nothing. -/
theorem Rel.drew {φ : Map} {w0 : Base} {w : World} {h : T AObj} (r : Rel φ w0 w h) : Rel φ w0 w.drew h :=
  ⟨r.below.drew, fun b s e t ro cs hb => let ⟨p, hp, hl⟩ := r.live b s e t ro cs hb; ⟨p, hp, hl.keep (Le.refl _) (fun _ _ => rfl) (fun _ _ => rfl)⟩, r.apart, r.loop, r.prot, r.objs, r.maps⟩

/-- Fewer blocks. -/
theorem Rel.sub {φ : Map} {w0 : Base} {w : World} {h h' : T AObj} (r : Rel φ w0 w h) (hs : ∀ b o, h'.get b = some o → h.get b = some o) : Rel φ w0 w h' :=
  ⟨r.below, fun b s e t ro cs hb => r.live b s e t ro cs (hs _ _ hb), fun b b' s e t cs s' e' t' r' cs' p p' hb hb' => r.apart b b' s e t cs s' e' t' r' cs' p p' (hs _ _ hb) (hs _ _ hb'),
    fun b l hb => r.loop b l (hs _ _ hb), r.prot, fun b b' o o' p p' hb hb' => r.objs b b' o o' p p' (hs _ _ hb) (hs _ _ hb'), fun b o hb => r.maps b o (hs _ _ hb)⟩

theorem Rel.del {φ : Map} {w0 : Base} {w : World} {h : T AObj} (r : Rel φ w0 w h) (c : Nat) : Rel φ w0 w (h.del c) :=
  r.sub fun b o hb => by rw [T.get_del] at hb; split at hb; cases hb; exact hb

theorem heap_setCells_ne (b : Nat) : ∀ (vs : List Value) (o : Nat) (w : World) (k : Nat), k ≠ b → (w.setCells b o vs).heap[k]? = w.heap[k]?
  | [], _, _, _, _ => rfl
  | v :: vs, o, w, k, h => by rw [World.setCells, heap_setCells_ne b vs _ _ _ h]; exact Below.heap_setCell _ _ _ _ h

theorem below_setCells {B : Nat} {a : World} (b : Nat) (hb : B ≤ b) : ∀ (vs : List Value) (o : Nat) (w : World), Below B a w → Below B a (w.setCells b o vs)
  | [], _, _, h => h
  | v :: vs, o, w, h => by rw [World.setCells]; exact below_setCells b hb vs _ _ (h.setCell hb v)

/-- Cells of a live block are written, its own cells behind its end among them. -/
theorem Rel.store' {φ : Map} {w0 : Base} {w : World} {h : T AObj} (r : Rel φ w0 w h) {b size es : Nat} {tight : Bool} {cs : T Value} (hb : h.get b = some (.cells size es tight false cs))
    {p : Pl} (hp : φ b = some p) (off : Nat) (vs us : List Value) (hv : VRs φ vs us) (size' : Nat) (hs' : size' ≤ p.ext) (hoff : off + vs.length ≤ p.ext) (hin' : ∀ i, i < size' → i < size ∨ (off ≤ i ∧ i < off + vs.length)) :
    Rel φ w0 (w.setCells p.blk (p.base + off) us) (h.set b (.cells size' es tight false (T.write vs cs off))) := by
  obtain ⟨q, hq, hl⟩ := r.live _ _ _ _ _ _ hb
  rw [hp] at hq; injection hq with hq; subst hq
  have hlen := hv.length
  have hext := hl.hsize
  have hB := (hl.own rfl).1
  have hcell : ∀ j, j < us.length → (w.cell? ⟨p.blk, p.base + off + j, none⟩).isSome = true := fun j hj => by
    have := hl.cell (off + j) (by omega)
    unfold Pl.at at this; rwa [← Nat.add_assoc] at this
  have hin : ∀ j (hj : j < us.length), (w.setCells p.blk (p.base + off) us).cell? ⟨p.blk, p.base + off + j, none⟩ = some us[j] := World.cell?_setCells_in p.blk us (p.base + off) w hcell
  have hout : ∀ x : Addr, (x.block = p.blk → x.spot = none → x.off < p.base + off ∨ p.base + off + us.length ≤ x.off) → (w.setCells p.blk (p.base + off) us).cell? x = w.cell? x := World.cell?_setCells_out p.blk us (p.base + off) w
  have hfro : ∀ x, (w.setCells p.blk (p.base + off) us).frozen? x = w.frozen? x := World.frozen?_setCells p.blk us (p.base + off) w
  have hobj : ∀ k, k ≠ p.blk → (w.setCells p.blk (p.base + off) us).heap[k]? = w.heap[k]? := heap_setCells_ne p.blk us (p.base + off) w
  have hnc : ∀ k (o : Obj), w.heap[k]? = some o → (∀ c e f, o ≠ Obj.cells c e f) → 0 < p.ext → k ≠ p.blk := fun k o hk ho hz e' => by
    have := hl.cell 0 hz
    unfold Pl.at World.cell? at this
    rw [← e', hk] at this
    cases o <;> first | exact absurd rfl (ho _ _ _) | simp at this
  have hsame : ∀ k (o : Obj), w.heap[k]? = some o → (∀ c e f, o ≠ Obj.cells c e f) → (w.setCells p.blk (p.base + off) us).heap[k]? = some o := fun k o hk ho => by
    by_cases hz : 0 < p.ext
    · rw [hobj _ (hnc k o hk ho hz)]; exact hk
    · have : us = [] := List.eq_nil_of_length_eq_zero (by omega)
      subst this; exact hk
  refine ⟨below_setCells p.blk hB us _ w r.below, ?_, ?_, ?_, ?_, ?_, fun b1 o hb1 ho => ?mp⟩
  case mp =>
    rw [T.get_set] at hb1
    by_cases e' : b1 = b
    · rw [if_pos e'] at hb1; injection hb1 with hb1; subst hb1; cases ho
    · rw [if_neg e'] at hb1
      obtain ⟨p1, h1, h2, h3⟩ := r.maps _ _ hb1 ho
      exact ⟨p1, h1, h2, MapOK.keep h3 fun k x hk hx => hsame _ _ hk hx.notCells⟩
  · intro b' size'' es' tight' ro' cs' hb'
    rw [T.get_set] at hb'
    by_cases e' : b' = b
    · rw [if_pos e'] at hb'
      injection hb' with hb'; injection hb' with h1 h2 h3 h4 h5
      subst h1; subst h2; subst h3; subst h4; subst h5; subst e'
      refine ⟨p, hp, ⟨hl.hes, hl.htight, hs', fun i hi => ?_, fun i hi => ?_, fun _ => ⟨hB, fun i hi => by rw [hfro]; exact (hl.own rfl).2 i hi⟩⟩⟩
      · by_cases hin2 : off ≤ i ∧ i < off + vs.length
        · have hx : vs[i - off]? = some vs[i - off] := List.getElem?_eq_getElem (by omega)
          obtain ⟨u, hu, hvu⟩ := hv.get hx
          refine ⟨_, u, by rw [T.get_write, if_pos hin2, hx], ?_, hvu⟩
          have hj := hin (i - off) (by omega)
          rw [List.getElem?_eq_getElem (by omega)] at hu; injection hu with hu
          unfold Pl.at
          rw [show p.base + i = p.base + off + (i - off) from by omega, hj, hu]
        · obtain ⟨v, u, h1, h2, h3⟩ := hl.val i ((hin' i hi).resolve_right hin2)
          refine ⟨v, u, by rw [T.get_write, if_neg hin2]; exact h1, ?_, h3⟩
          rw [hout _ (fun _ _ => by unfold Pl.at; simp only; omega)]; exact h2
      · by_cases hin2 : off ≤ i ∧ i < off + vs.length
        · have hj := hin (i - off) (by omega)
          unfold Pl.at
          rw [show p.base + i = p.base + off + (i - off) from by omega, hj]; rfl
        · rw [hout _ (fun _ _ => by unfold Pl.at; simp only; omega)]; exact hl.cell i hi
    · rw [if_neg e'] at hb'
      obtain ⟨q, hq, hl'⟩ := r.live _ _ _ _ _ _ hb'
      have hap := r.apart b b' _ _ _ _ _ _ _ _ _ p q hb hb' (fun e => e' e.symm) hp hq
      refine ⟨q, hq, hl'.keep (Le.refl _) (fun i hi => hout _ (fun h1 _ => ?_)) (fun i hi => hfro _)⟩
      unfold Pl.at at h1 ⊢; simp only at h1 ⊢
      rcases hap with h | h | h | h | h
      · omega
      · omega
      · exact absurd h1.symm h
      · omega
      · omega
  · intro b1 b2 s1 e1 t1 cs1 s2 e2 t2 r2 cs2 p1 p2 hb1 hb2 hne hp1 hp2
    have key : ∀ x s e t ro cs', (h.set b (.cells size' es tight false (T.write vs cs off))).get x = some (.cells s e t ro cs') → ∃ s'' cs'', h.get x = some (.cells s'' e t ro cs'') := by
      intro x s e t ro cs' hx
      rw [T.get_set] at hx
      by_cases e' : x = b
      · rw [if_pos e'] at hx; injection hx with hx; injection hx with h1 h2 h3 h4 h5
        subst h2; subst h3; subst h4; subst e'; exact ⟨size, cs, hb⟩
      · rw [if_neg e'] at hx; exact ⟨s, cs', hx⟩
    obtain ⟨_, c1, k1⟩ := key _ _ _ _ _ _ hb1
    obtain ⟨_, c2, k2⟩ := key _ _ _ _ _ _ hb2
    exact r.apart _ _ _ _ _ _ _ _ _ _ _ _ _ k1 k2 hne hp1 hp2
  · intro b' l hb'
    rw [T.get_set] at hb'
    by_cases e' : b' = b
    · rw [if_pos e'] at hb'; cases hb'
    · rw [if_neg e'] at hb'
      obtain ⟨q, L, h1, h2, h3, h4⟩ := r.loop _ _ hb'
      exact ⟨q, L, h1, h2, hsame _ _ h3 (by simp), h4⟩
  · intro k o hk
    obtain ⟨h0, h1, h2⟩ := r.prot k o hk
    exact ⟨h0, h1, hsame _ _ h2 h0.notCells⟩
  · intro b1 b2 o1 o2 p1 p2 hb1 hb2 ho1 ho2 hne hp1 hp2
    rw [T.get_set] at hb1 hb2
    by_cases e1 : b1 = b
    · rw [if_pos e1] at hb1; injection hb1 with hb1; subst hb1; simp [AObj.isCells] at ho1
    · by_cases e2 : b2 = b
      · rw [if_pos e2] at hb2; injection hb2 with hb2; subst hb2; simp [AObj.isCells] at ho2
      · rw [if_neg e1] at hb1; rw [if_neg e2] at hb2
        exact r.objs _ _ _ _ _ _ hb1 hb2 ho1 ho2 hne hp1 hp2

/-- Cells of a live block are written. -/
theorem Rel.store {φ : Map} {w0 : Base} {w : World} {h : T AObj} (r : Rel φ w0 w h) {b size es : Nat} {tight : Bool} {cs : T Value} (hb : h.get b = some (.cells size es tight false cs))
    {p : Pl} (hp : φ b = some p) (off : Nat) (vs us : List Value) (hv : VRs φ vs us) (hoff : off + vs.length ≤ size) :
    Rel φ w0 (w.setCells p.blk (p.base + off) us) (h.set b (.cells size es tight false (T.write vs cs off))) := by
  obtain ⟨q, hq, hl⟩ := r.live _ _ _ _ _ _ hb
  rw [hp] at hq; injection hq with hq; subst hq
  exact r.store' hb hp off vs us hv size hl.hsize (Nat.le_trans hoff hl.hsize) (fun i hi => .inl hi)

/-- A block gives way to one that has a part of its cells. -/
theorem Rel.shrink {φ : Map} {w0 : Base} {w : World} {h : T AObj} (r : Rel φ w0 w h) {b size es : Nat} {tight : Bool} {cs : T Value} (hb : h.get b = some (.cells size es tight false cs))
    {p : Pl} (hp : φ b = some p) (off n : Nat) (hoff : n = 0 ∨ off + n ≤ size) {c : Nat} (hc : φ c = none) (t : T Value) (ht : ∀ i, i < n → t.get i = cs.get (off + i)) :
    Rel (put φ c ⟨p.blk, p.base + off, p.ext - off, es, tight⟩) w0 w ((h.del b).set c (.cells n es tight false t)) := by
  obtain ⟨q, hq, hl⟩ := r.live _ _ _ _ _ _ hb
  rw [hp] at hq; injection hq with hq; subst hq
  have hle := put_le ⟨p.blk, p.base + off, p.ext - off, es, tight⟩ hc
  have hbc : b ≠ c := fun e => by subst e; rw [hc] at hp; cases hp
  have hsz := hl.hsize
  have hat : ∀ i, Pl.at ⟨p.blk, p.base + off, p.ext - off, es, tight⟩ i = p.at (off + i) := fun i => by unfold Pl.at; simp [Nat.add_assoc]
  have hget : ∀ x o, ((h.del b).set c (.cells n es tight false t)).get x = some o → (x = c ∧ o = .cells n es tight false t) ∨ (x ≠ c ∧ x ≠ b ∧ h.get x = some o) := by
    intro x o hx
    rw [T.get_set, T.get_del] at hx
    by_cases e1 : x = c
    · rw [if_pos e1] at hx; injection hx with hx; exact .inl ⟨e1, hx.symm⟩
    · rw [if_neg e1] at hx
      by_cases e2 : x = b
      · rw [if_pos e2] at hx; cases hx
      · rw [if_neg e2] at hx; exact .inr ⟨e1, e2, hx⟩
  have hsub : ∀ q : Pl, Apart p q → Apart ⟨p.blk, p.base + off, p.ext - off, es, tight⟩ q := by
    intro q hq
    unfold Apart at hq ⊢
    simp only
    rcases hq with h | h | h | h | h
    · exact .inl (by omega)
    · exact .inr (.inl h)
    · exact .inr (.inr (.inl h))
    · by_cases hz : p.ext - off = 0
      · exact .inl hz
      · exact .inr (.inr (.inr (.inl (by omega))))
    · exact .inr (.inr (.inr (.inr (by omega))))
  have hsym : ∀ p q : Pl, Apart p q → Apart q p := by
    intro p q h
    unfold Apart at h ⊢
    rcases h with h | h | h | h | h
    · exact .inr (.inl h)
    · exact .inl h
    · exact .inr (.inr (.inl (Ne.symm h)))
    · exact .inr (.inr (.inr (.inr h)))
    · exact .inr (.inr (.inr (.inl h)))
  refine ⟨r.below, ?_, ?_, ?_, ?_, ?_, fun b1 o hb1 ho => ?mp⟩
  case mp =>
    rcases hget _ _ hb1 with ⟨e1, e2⟩ | ⟨e1, e2, e3⟩
    · subst e2; cases ho
    · obtain ⟨p1, h1, h2, h3⟩ := r.maps _ _ e3 ho
      exact ⟨p1, by rw [put_ne _ _ e1]; exact h1, h2, h3⟩
  · intro x s e t' ro cs' hx
    rcases hget _ _ hx with ⟨e1, e2⟩ | ⟨e1, e2, e3⟩
    · subst e1
      injection e2 with h1 h2 h3 h4 h5
      subst h1; subst h2; subst h3; subst h4; subst h5
      refine ⟨_, put_self _ _ _, ⟨rfl, rfl, by simp only; omega, fun i hi => ?_, fun i hi => ?_, fun _ => ⟨(hl.own rfl).1, fun i hi => ?_⟩⟩⟩
      · obtain ⟨v, u, k1, k2, k3⟩ := hl.val (off + i) (by omega)
        exact ⟨v, u, by rw [ht i hi]; exact k1, by rw [hat]; exact k2, k3.mono hle⟩
      · simp only at hi; rw [hat]; exact hl.cell _ (by omega)
      · simp only at hi; rw [hat]; exact (hl.own rfl).2 _ (by omega)
    · obtain ⟨q, hq, hl'⟩ := r.live _ _ _ _ _ _ e3
      exact ⟨q, by rw [put_ne _ _ e1]; exact hq, hl'.keep hle (fun _ _ => rfl) (fun _ _ => rfl)⟩
  · intro b1 b2 s1 e1 t1 cs1 s2 e2 t2 r2 cs2 p1 p2 hb1 hb2 hne hp1 hp2
    rcases hget _ _ hb1 with ⟨a1, a2⟩ | ⟨a1, a2, a3⟩
    · rcases hget _ _ hb2 with ⟨c1, c2⟩ | ⟨c1, c2, c3⟩
      · exact absurd (a1.trans c1.symm) hne
      · subst a1
        rw [put_self] at hp1; injection hp1 with hp1; subst hp1
        rw [put_ne _ _ c1] at hp2
        exact hsub _ (r.apart _ _ _ _ _ _ _ _ _ _ _ _ _ hb c3 (Ne.symm c2) hp hp2)
    · rcases hget _ _ hb2 with ⟨c1, c2⟩ | ⟨c1, c2, c3⟩
      · subst c1
        rw [put_self] at hp2; injection hp2 with hp2; subst hp2
        rw [put_ne _ _ a1] at hp1
        exact hsym _ _ (hsub _ (hsym _ _ (r.apart _ _ _ _ _ _ _ _ _ _ _ _ _ a3 hb a2 hp1 hp)))
      · rw [put_ne _ _ a1] at hp1; rw [put_ne _ _ c1] at hp2
        exact r.apart _ _ _ _ _ _ _ _ _ _ _ _ _ a3 c3 hne hp1 hp2
  · intro x l hx
    rcases hget _ _ hx with ⟨e1, e2⟩ | ⟨e1, e2, e3⟩
    · cases e2
    · obtain ⟨q, L, k1, k2, k3, k4⟩ := r.loop _ _ e3
      exact ⟨q, L, by rw [put_ne _ _ e1]; exact k1, k2, k3, k4.mono hle⟩
  · exact r.prot
  · intro x y o1 o2 p1 p2 hx hy ho1 ho2 hne hp1 hp2
    rcases hget _ _ hx with ⟨e1, e2⟩ | ⟨e1, e2, e3⟩
    · subst e2; cases ho1
    · rcases hget _ _ hy with ⟨f1, f2⟩ | ⟨f1, f2, f3⟩
      · subst f2; cases ho2
      · rw [put_ne _ _ e1] at hp1; rw [put_ne _ _ f1] at hp2
        exact r.objs _ _ _ _ _ _ e3 f3 ho1 ho2 hne hp1 hp2

/-- Another heap that reads the same. -/
theorem Rel.recell {φ : Map} {w0 : Base} {w : World} {h h' : T AObj} (r : Rel φ w0 w h) {c n es : Nat} {tight ro : Bool} {cs cs' : T Value} (hc : h.get c = some (.cells n es tight ro cs))
    (hcs : ∀ i, i < n → cs'.get i = cs.get i) (hh : ∀ x, h'.get x = if x = c then some (.cells n es tight ro cs') else h.get x) : Rel φ w0 w h' := by
  have hget : ∀ x o, h'.get x = some o → (x = c ∧ o = .cells n es tight ro cs') ∨ (x ≠ c ∧ h.get x = some o) := by
    intro x o hx
    rw [hh] at hx
    by_cases e : x = c
    · rw [if_pos e] at hx; injection hx with hx; exact .inl ⟨e, hx.symm⟩
    · rw [if_neg e] at hx; exact .inr ⟨e, hx⟩
  have hcell : ∀ x s e t ro' cs1, h'.get x = some (.cells s e t ro' cs1) → ∃ cs2, h.get x = some (.cells s e t ro' cs2) := by
    intro x s e t ro' cs1 hx
    rcases hget _ _ hx with ⟨e1, e2⟩ | ⟨e1, e2⟩
    · injection e2 with h1 h2 h3 h4 h5
      subst e1; subst h1; subst h2; subst h3; subst h4; exact ⟨_, hc⟩
    · exact ⟨_, e2⟩
  refine ⟨r.below, ?_, ?_, ?_, ?_, ?_, fun b1 o hb1 ho => ?mp⟩
  case mp =>
    rcases hget _ _ hb1 with ⟨e1, e2⟩ | ⟨e1, e2⟩
    · subst e2; cases ho
    · exact r.maps _ _ e2 ho
  · intro x s e t ro' cs1 hx
    rcases hget _ _ hx with ⟨e1, e2⟩ | ⟨e1, e2⟩
    · injection e2 with h1 h2 h3 h4 h5
      subst e1; subst h1; subst h2; subst h3; subst h4; subst h5
      obtain ⟨p, hp, hl⟩ := r.live _ _ _ _ _ _ hc
      exact ⟨p, hp, ⟨hl.hes, hl.htight, hl.hsize, fun i hi => by rw [hcs i hi]; exact hl.val i hi, hl.cell, hl.own⟩⟩
    · exact r.live _ _ _ _ _ _ e2
  · intro b1 b2 s1 e1 t1 cs1 s2 e2 t2 r2 cs2 p1 p2 hb1 hb2 hne hp1 hp2
    obtain ⟨_, k1⟩ := hcell _ _ _ _ _ _ hb1
    obtain ⟨_, k2⟩ := hcell _ _ _ _ _ _ hb2
    exact r.apart _ _ _ _ _ _ _ _ _ _ _ _ _ k1 k2 hne hp1 hp2
  · intro x l hx
    rcases hget _ _ hx with ⟨e1, e2⟩ | ⟨e1, e2⟩
    · cases e2
    · exact r.loop _ _ e2
  · exact r.prot
  · intro x y o1 o2 p1 p2 hx hy ho1 ho2 hne hp1 hp2
    rcases hget _ _ hx with ⟨e1, e2⟩ | ⟨e1, e2⟩
    · subst e2; cases ho1
    · rcases hget _ _ hy with ⟨f1, f2⟩ | ⟨f1, f2⟩
      · subst f2; cases ho2
      · exact r.objs _ _ _ _ _ _ e2 f2 ho1 ho2 hne hp1 hp2

end Go.Ax
