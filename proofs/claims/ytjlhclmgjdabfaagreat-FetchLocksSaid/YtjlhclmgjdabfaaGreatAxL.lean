/- Reasoning about the trees: blocks as lists, weakest preconditions, loops.
Conditions: none. -/
import Derived.Test.YtjlhclmgjdabfaaGreatAxV6
namespace Go.Ax
set_option linter.unusedSectionVars false
set_option linter.unusedVariables false
set_option linter.unusedSimpArgs false

/-! ### Tries are made of what they hold -/
namespace T
variable {α : Type}

theorem setF_fuel (x : Option α) : ∀ (f g n : Nat) (t : T α), n < f → n < g → setF x f t n = setF x g t n
  | 0, _, n, t, h, _ => absurd h (Nat.not_lt_zero _)
  | _, 0, n, t, _, h => absurd h (Nat.not_lt_zero _)
  | f + 1, g + 1, n, t, hf, hg => by
    have key : ∀ v l r, setV x (setF x f) n v l r = setV x (setF x g) n v l r := by
      intro v l r
      rcases Nat.eq_zero_or_pos n with h0 | h0
      · subst h0; rfl
      · rcases Nat.mod_two_eq_zero_or_one n with h | h
        · rw [setV_even _ _ _ _ _ _ (by omega) h, setV_even _ _ _ _ _ _ (by omega) h, setF_fuel x f g (n / 2 - 1) r (by omega) (by omega)]
        · rw [setV_odd _ _ _ _ _ _ h, setV_odd _ _ _ _ _ _ h, setF_fuel x f g (n / 2) l (by omega) (by omega)]
    cases t with
    | nil => exact key none .nil .nil
    | node v l r => exact key v l r

theorem set_zero (t : T α) (x : α) : t.set 0 x = .node (some x) t.lft t.rgt := by cases t <;> rfl
theorem set_odd (t : T α) {n : Nat} (h : n % 2 = 1) (x : α) : t.set n x = .node t.val (t.lft.set (n / 2) x) t.rgt := by
  have gen : ∀ v l r, setV (some x) (setF (some x) n) n v l r = .node v (l.set (n / 2) x) r := by
    intro v l r
    rw [setV_odd _ _ _ _ _ _ h, setF_fuel _ n (n / 2 + 1) _ _ (by omega) (by omega)]; rfl
  cases t with
  | nil => exact gen none .nil .nil
  | node v l r => exact gen v l r
theorem set_even (t : T α) {n : Nat} (h : n % 2 = 0) (h0 : n ≠ 0) (x : α) : t.set n x = .node t.val t.lft (t.rgt.set (n / 2 - 1) x) := by
  have gen : ∀ v l r, setV (some x) (setF (some x) n) n v l r = .node v l (r.set (n / 2 - 1) x) := by
    intro v l r
    rw [setV_even _ _ _ _ _ _ h0 h, setF_fuel _ n (n / 2 - 1 + 1) _ _ (by omega) (by omega)]; rfl
  cases t with
  | nil => exact gen none .nil .nil
  | node v l r => exact gen v l r

theorem set_set : ∀ (n : Nat) (t : T α) (x y : α), (t.set n x).set n y = t.set n y := by
  intro n
  induction n using Nat.strongRecOn with
  | ind n ih =>
    intro t x y
    rcases Nat.eq_zero_or_pos n with h0 | h0
    · subst h0; rw [set_zero, set_zero, set_zero]; rfl
    · rcases Nat.mod_two_eq_zero_or_one n with h | h
      · rw [set_even t h (by omega), set_even _ h (by omega), set_even t h (by omega)]
        show T.node t.val t.lft ((t.rgt.set _ x).set _ y) = _
        rw [ih _ (by omega)]
      · rw [set_odd t h, set_odd _ h, set_odd t h]
        show T.node t.val ((t.lft.set _ x).set _ y) t.rgt = _
        rw [ih _ (by omega)]

theorem set_comm : ∀ (n m : Nat) (t : T α) (x y : α), n ≠ m → (t.set n x).set m y = (t.set m y).set n x := by
  intro n
  induction n using Nat.strongRecOn with
  | ind n ih =>
    intro m t x y hne
    rcases Nat.eq_zero_or_pos n with h0 | h0
    · subst h0
      rcases Nat.mod_two_eq_zero_or_one m with h | h
      · rw [set_zero, set_even _ h (by omega), set_even t h (by omega), set_zero]; rfl
      · rw [set_zero, set_odd _ h, set_odd t h, set_zero]; rfl
    · rcases Nat.eq_zero_or_pos m with m0 | m0
      · subst m0
        rcases Nat.mod_two_eq_zero_or_one n with h | h
        · rw [set_zero, set_even t h (by omega), set_zero, set_even _ h (by omega)]; rfl
        · rw [set_zero, set_odd t h, set_zero, set_odd _ h]; rfl
      · rcases Nat.mod_two_eq_zero_or_one n with h | h <;> rcases Nat.mod_two_eq_zero_or_one m with h' | h'
        · rw [set_even t h (by omega), set_even _ h' (by omega), set_even t h' (by omega), set_even _ h (by omega)]
          show T.node t.val t.lft ((t.rgt.set _ x).set _ y) = .node t.val t.lft ((t.rgt.set _ y).set _ x)
          rw [ih _ (by omega) _ _ _ _ (by omega)]
        · rw [set_even t h (by omega), set_odd _ h', set_odd t h', set_even _ h (by omega)]; rfl
        · rw [set_odd t h, set_even _ h' (by omega), set_even t h' (by omega), set_odd _ h]; rfl
        · rw [set_odd t h, set_odd _ h', set_odd t h', set_odd _ h]
          show T.node t.val ((t.lft.set _ x).set _ y) t.rgt = .node t.val ((t.lft.set _ y).set _ x) t.rgt
          rw [ih _ (by omega) _ _ _ _ (by omega)]

theorem write_set : ∀ (l : List α) (t : T α) (off n : Nat) (x : α), off ≤ n → n < off + l.length → (write l t off).set n x = write (l.set (n - off) x) t off
  | [], t, off, n, x, h1, h2 => by simp at h2; omega
  | v :: l, t, off, n, x, h1, h2 => by
    rw [write_cons]
    by_cases e : n = off
    · subst e
      rw [Nat.sub_self]
      show (write l (t.set n v) (n + 1)).set n x = write l (t.set n x) (n + 1)
      have : ∀ (l : List α) (t : T α) (k : Nat), n < k → (write l t k).set n x = write l (t.set n x) k := by
        intro l
        induction l with
        | nil => intro t k _; rfl
        | cons u l ih => intro t k hk; rw [write_cons, write_cons, ih _ _ (by omega), set_comm k n _ _ _ (by omega)]
      rw [this _ _ _ (by omega), set_set]
    · obtain ⟨j, hj⟩ : ∃ j, n - off = j + 1 := ⟨n - off - 1, by omega⟩
      rw [hj]
      show _ = write (l.set j x) (t.set off v) (off + 1)
      rw [write_set l _ (off + 1) n x (by omega) (by simp at h2; omega)]
      congr 1
      rw [show n - (off + 1) = j by omega]

/-- A list with a part replaced. -/
def _root_.Go.Ax.splice {β : Type} (L : List β) (off : Nat) (l : List β) : List β := match l with
  | [] => L
  | x :: l => Go.Ax.splice (L.set off x) (off + 1) l
theorem _root_.Go.Ax.splice_length {β : Type} : ∀ (l L : List β) (off : Nat), (splice L off l).length = L.length
  | [], L, off => rfl
  | x :: l, L, off => by
    show (splice (L.set off x) (off + 1) l).length = _
    rw [splice_length l]; simp

theorem write_ofList : ∀ (l : List α) (L : List α) (off : Nat), off + l.length ≤ L.length → write l (ofList L) off = ofList (splice L off l)
  | [], L, off, h => rfl
  | x :: l, L, off, h => by
    rw [write_cons]
    have h' : off + (l.length + 1) ≤ L.length := h
    have : (ofList L).set off x = ofList (L.set off x) := by
      show (write L .nil 0).set off x = write _ .nil 0
      rw [write_set L .nil 0 off x (by omega) (by omega)]; rfl
    rw [this, write_ofList l (L.set off x) (off + 1) (by simp; omega)]
    rfl
theorem read_ofList (L : List α) : ∀ (n off : Nat), off + n ≤ L.length → (ofList L).read n off = some ((L.drop off).take n)
  | 0, off, h => by rw [read_zero]; simp
  | n + 1, off, h => by
    rw [read_succ, get_ofList, List.getElem?_eq_getElem (by omega), List.drop_eq_getElem_cons (by omega)]
    show consO _ ((ofList L).read n (off + 1)) = _
    rw [read_ofList L n (off + 1) (by omega)]
    rfl
end T

/-! ### Blocks -/

/-- A block that holds a list. -/
noncomputable def bx (es : Nat) (ti ro : Bool) (L : List Value) : AObj := .cells L.length es ti ro (T.ofList L)
noncomputable def push (s : HS) (o : AObj) : HS := { h := s.h.set s.c o, c := s.c + 1, log := s.log }
noncomputable def upd (s : HS) (b : Nat) (o : AObj) : HS := { h := s.h.set b o, c := s.c, log := b :: s.log }

theorem push_c (s : HS) (o : AObj) : (push s o).c = s.c + 1 := rfl
theorem push_log (s : HS) (o : AObj) : (push s o).log = s.log := rfl
theorem push_get (s : HS) (o : AObj) (b : Nat) : (push s o).h.get b = if b = s.c then some o else s.h.get b := T.get_set _ _ _ _
theorem upd_c (s : HS) (b : Nat) (o : AObj) : (upd s b o).c = s.c := rfl
theorem upd_log (s : HS) (b : Nat) (o : AObj) : (upd s b o).log = b :: s.log := rfl
theorem upd_get (s : HS) (b : Nat) (o : AObj) (b' : Nat) : (upd s b o).h.get b' = if b' = b then some o else s.h.get b' := T.get_set _ _ _ _

theorem newObj_run (o : AObj) (s : HS) : newObj o s = some (s.c, push s o) := newObj_eq o s
theorem newCells_run (es n : Nat) (ti : Bool) (l : List Value) (s : HS) (h : n = l.length) : newCells es ti n l s = some (s.c, push s (bx es ti false l)) := by
  subst h; exact newObj_run _ s
theorem newM_run (l : List Value) (s : HS) : newM l s = some (s.c, push s (bx 1 true false l)) := newCells_run _ _ _ _ _ (lenL_eq l)

theorem loadN_run {s : HS} {b off n es : Nat} {ti ro : Bool} {L : List Value} (h : s.h.get b = some (bx es ti ro L)) (hb : off + n ≤ L.length) : loadN ⟨b, off, none⟩ n s = some ((L.drop off).take n, s) := by
  show M.bind (getObj b) (loadB off n) s = _
  refine bind_of (show getObj b s = some (bx es ti ro L, s) from by unfold getObj; rw [h]; rfl) ?_
  show (match Nat.ble (Nat.add off n) L.length with
    | true => M.ofO ((T.ofList L).read n off)
    | false => M.fail) s = _
  rw [nble, decide_eq_true (show Nat.add off n ≤ L.length from hb)]
  show M.ofO ((T.ofList L).read n off) s = _
  rw [T.read_ofList L n off hb]; rfl

theorem storeN_run {s : HS} {b off es : Nat} {ti : Bool} {L l : List Value} (h : s.h.get b = some (bx es ti false L)) (hl : allCells l = true) (hb : off + l.length ≤ L.length) :
    storeN ⟨b, off, none⟩ l s = some ((), upd s b (bx es ti false (splice L off l))) := by
  show (match allCells l with
    | true => M.bind (getObj b) (storeB b off l)
    | false => M.fail) s = _
  rw [hl]
  refine bind_of (show getObj b s = some (bx es ti false L, s) from by unfold getObj; rw [h]; rfl) ?_
  show (match Nat.ble (Nat.add off (lenL l)) L.length with
      | true => setObj b (.cells L.length es ti false (T.write l (T.ofList L) off))
      | false => M.fail) s = _
  rw [lenL_eq, nble, decide_eq_true (show Nat.add off l.length ≤ L.length from hb)]
  show setObj b _ s = _
  unfold setObj
  rw [h, T.write_ofList l L off hb]
  show some ((), _) = _
  unfold bx
  rw [splice_length]; rfl

/-! ### Weakest preconditions -/

/-- The tree comes to an end, with a result and a state as said. -/
def WP {α : Type} (t : Tr α) (s : HS) (Q : α → HS → Prop) : Prop := ∃ a s', t.run s = some (a, s') ∧ Q a s'
def WM {α : Type} (m : M α) (s : HS) (Q : α → HS → Prop) : Prop := ∃ a s', m s = some (a, s') ∧ Q a s'

section
variable {α β γ : Type} {s : HS} {Q : α → HS → Prop}

theorem WP.ret {a : α} (h : Q a s) : WP (.ret a) s Q := ⟨a, s, rfl, h⟩
theorem WP.op {m : M β} {k : β → Tr α} {b : β} {s1 : HS} (h : m s = some (b, s1)) (h' : WP (k b) s1 Q) : WP (.op m k) s Q := by
  obtain ⟨a, s', h1, h2⟩ := h'
  exact ⟨a, s', bind_of (k := fun x => (k x).run) h h1, h2⟩
theorem WP.opM {m : M β} {k : β → Tr α} {R : β → HS → Prop} (h : WM m s R) (h' : ∀ b s1, R b s1 → WP (k b) s1 Q) : WP (.op m k) s Q := by
  obtain ⟨b, s1, h1, h2⟩ := h
  exact WP.op h1 (h' b s1 h2)
theorem WP.bind {t : Tr β} {k : β → Tr α} {R : β → HS → Prop} (h : WP t s R) (h' : ∀ b s1, R b s1 → WP (k b) s1 Q) : WP (.bind t k) s Q := by
  obtain ⟨b, s1, h1, h2⟩ := h
  obtain ⟨a, s', h3, h4⟩ := h' b s1 h2
  exact ⟨a, s', bind_of (k := fun x => (k x).run) h1 h3, h4⟩
theorem WP.cond {b : Bool} {t e : Tr α} (h1 : b = true → WP t s Q) (h2 : b = false → WP e s Q) : WP (cond b t e) s Q := by
  cases b with
  | true => exact h1 rfl
  | false => exact h2 rfl
theorem WP.mono {t : Tr α} {R : α → HS → Prop} (h : WP t s R) (h' : ∀ a s, R a s → Q a s) : WP t s Q := by
  obtain ⟨a, s', h1, h2⟩ := h
  exact ⟨a, s', h1, h' _ _ h2⟩

theorem iterS_inv {f : β → M (β ⊕ γ)} {I : Nat → β → HS → Prop} {R : γ → HS → Prop} (N : Nat)
    (step : ∀ i x s, i ≤ N → I i x s → ∃ r s', f x s = some (r, s') ∧ (match r with
      | .inl y => i < N ∧ I (i + 1) y s'
      | .inr z => R z s')) : ∀ (fuel i : Nat) (x : β) (s : HS), N - i < fuel → i ≤ N → I i x s → ∃ z s', iterS f fuel x s = some (z, s') ∧ R z s' := by
  intro fuel
  induction fuel with
  | zero => intro i x s h; omega
  | succ fuel ih =>
    intro i x s h1 h2 h3
    obtain ⟨r, s1, e1, e2⟩ := step i x s h2 h3
    cases r with
    | inl y =>
      obtain ⟨h4, h5⟩ := e2
      obtain ⟨z, s', e3, e4⟩ := ih (i + 1) y s1 (by omega) (by omega) h5
      exact ⟨z, s', bind_of e1 e3, e4⟩
    | inr z => exact ⟨z, s1, bind_of e1 rfl, e2⟩

/-- A loop of at most N rounds. -/
theorem WP.loop {body : β → Tr (β ⊕ γ)} {lf : Nat} {init : β} {k : γ → Tr α} (N : Nat) (I : Nat → β → HS → Prop) (R : γ → HS → Prop) (hlf : N < lf) (h0 : I 0 init s)
    (step : ∀ i x s, i ≤ N → I i x s → WP (body x) s fun r s' => match r with
      | .inl y => i < N ∧ I (i + 1) y s'
      | .inr z => R z s') (h : ∀ z s', R z s' → WP (k z) s' Q) : WP (.loop body lf init k) s Q := by
  obtain ⟨z, s1, e1, e2⟩ := iterS_inv (f := fun x => (body x).run) (I := I) (R := R) N (fun i x s hi hI => step i x s hi hI) lf 0 init s (by omega) (Nat.zero_le _) h0
  obtain ⟨a, s', e3, e4⟩ := h z s1 e2
  exact ⟨a, s', bind_of (k := fun x => (k x).run) e1 e3, e4⟩

theorem WP.new {l : List Value} {k : Nat → Tr α} (h : WP (k s.c) (push s (bx 1 true false l)) Q) : WP (.op (newM l) k) s Q := WP.op (newM_run l s) h
theorem WP.fld {off : Nat} {a : Addr} {k : Addr → Tr α} (h : WP (k ⟨a.block, a.off + off, a.spot⟩) s Q) : WP (.op (fldM off (some a)) k) s Q := WP.op (m := fldM off (some a)) rfl h
theorem WP.ld {sh : S2} {b off es : Nat} {ti ro : Bool} {L : List Value} {x : sh.Sem} {k : sh.Sem → Tr α} (hg : s.h.get b = some (bx es ti ro L)) (hb : off + sh.size ≤ L.length)
    (hx : unCells sh ((L.drop off).take sh.size) = some x) (h : WP (k x) s Q) : WP (.op (ldM sh (some ⟨b, off, none⟩)) k) s Q := by
  refine WP.op (m := ldM sh (some ⟨b, off, none⟩)) (b := x) (s1 := s) ?_ h
  show M.bind (loadN ⟨b, off, none⟩ sh.size) (fun l => M.ofO (unCells sh l)) s = _
  refine bind_of (loadN_run hg hb) ?_
  rw [hx]; rfl
theorem WP.st {b off es : Nat} {ti : Bool} {L l : List Value} {k : Unit → Tr α} (hg : s.h.get b = some (bx es ti false L)) (hl : allCells l = true) (hb : off + l.length ≤ L.length)
    (h : WP (k ()) (upd s b (bx es ti false (splice L off l))) Q) : WP (.op (stM l (some ⟨b, off, none⟩)) k) s Q :=
  WP.op (m := stM l (some ⟨b, off, none⟩)) (storeN_run hg hl hb) h
theorem WP.ix {es n b off : Nat} {kk : IntKind} {i : Nat} {k : Addr → Tr α} (hi : i < n) (h : WP (k ⟨b, off + i * es, none⟩) s Q) : WP (.op (ixP es n (some ⟨b, off, none⟩) kk (i : Int)) k) s Q := by
  refine WP.op (m := ixP es n (some ⟨b, off, none⟩) kk (i : Int)) (b := ⟨b, off + i * es, none⟩) (s1 := s) ?_ h
  show M.bind (idxAddr es n (.int kk (Int.ofNat i)) ⟨b, off, none⟩) adK s = _
  show M.bind (match Nat.blt i n with
    | true => force (Nat.mul i es) fun o => Go.Ax.ret (.pointer (some (addA ⟨b, off, none⟩ o)))
    | false => M.fail) adK s = _
  rw [nblt, decide_eq_true hi]
  show M.bind (force (Nat.mul i es) fun o => Go.Ax.ret (.pointer (some (addA ⟨b, off, none⟩ o)))) adK s = _
  rw [force_eq]; rfl
end
end Go.Ax
