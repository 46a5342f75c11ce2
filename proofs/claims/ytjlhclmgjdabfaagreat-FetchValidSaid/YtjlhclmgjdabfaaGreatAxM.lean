/- Contracts of calls; growth of the heap; slices that hold lists.
Conditions: none. -/
import Derived.Test.YtjlhclmgjdabfaaGreatAxL

namespace Go.Ax
set_option linter.unusedSectionVars false
set_option linter.unusedVariables false
set_option linter.unusedSimpArgs false

/-! ### Shapes, there and back -/

theorem S1.un_self : ∀ {s : S1} (x : s.Sem), s.un (s.mk x) = some x := by
  intro s x
  cases s with
  | int k =>
    show (match nEq k k with | true => some x | false => none) = some x
    rw [(nEq_iff k k).2 rfl]
  | _ => rfl
theorem S1.unL_self : ∀ {l : List S1} (x : S1.SemL l), S1.unL l (S1.mkL l x) = some x
  | [], x => rfl
  | s :: l, x => by
    show pairO (s.un (s.mk x.1)) (S1.unL l (S1.mkL l x.2)) = some x
    rw [S1.un_self, S1.unL_self]; rfl
theorem S2.un_self {s : S2} (x : s.Sem) : s.un (s.mk x) = some x := by
  cases s with
  | one y => exact S1.un_self x
  | agg l => exact S1.unL_self x
theorem S2.unL_self : ∀ {l : List S2} (x : S2.SemL l), S2.unL l (S2.mkL l x) = some x
  | [], x => rfl
  | s :: l, x => by
    show pairO (s.un (s.mk x.1)) (S2.unL l (S2.mkL l x.2)) = some x
    rw [S2.un_self, S2.unL_self]; rfl
theorem S3.un_self {s : S3} (x : s.Sem) : s.un (s.mk x) = some x := by
  cases s with
  | v y => exact S2.un_self x
  | tup l => exact S2.unL_self x
/-! ### Calls -/

/-- A call at depth d or more comes to an end, with a result and a state as said. -/
def Runs (env : Env) (lf : Nat) (tbl : Tbl) (d f : Nat) (args : List Value) (sh : S3) (s : HS) (Q : sh.Sem → HS → Prop) : Prop :=
  ∀ n, d ≤ n → ∃ x s', callT env lf tbl n (.fn f) args s = some (sh.mk x, s') ∧ Q x s'

section
variable {env : Env} {lf : Nat} {tbl : Tbl} {R : Type}

theorem Runs.of {shT : Nat → Option S3} {d f : Nat} {fn : Func} {args : List Value} {sh : S3} {s : HS} {Q : sh.Sem → HS → Prop} (t : CallH → Tr Value) (hf : env.fn.get f = some fn) (ht : tbl f args = none)
    (hg : ∀ call, gFn shT env call lf args fn = t call) (h : ∀ n, d ≤ n → WP (t (callT env lf tbl n)) s fun v s' => ∃ x, v = sh.mk x ∧ Q x s') : Runs env lf tbl (d + 1) f args sh s Q := by
  intro n hn
  obtain ⟨m, rfl⟩ : ∃ m, n = m + 1 := ⟨n - 1, by omega⟩
  obtain ⟨v, s', h1, x, h2, h3⟩ := h m (by omega)
  subst h2
  exact ⟨x, s', callT_gFn hf ht (hg _) h1, h3⟩

theorem Runs.mono {d d' f : Nat} {args : List Value} {sh : S3} {s : HS} {Q Q' : sh.Sem → HS → Prop} (h : Runs env lf tbl d f args sh s Q) (hd : d ≤ d') (h' : ∀ x s', Q x s' → Q' x s') : Runs env lf tbl d' f args sh s Q' := fun n hn => by
  obtain ⟨x, s', h1, h2⟩ := h n (by omega)
  exact ⟨x, s', h1, h' _ _ h2⟩

theorem WP.call {d f n : Nat} {args : List Value} {sh : S3} {s : HS} {P : sh.Sem → HS → Prop} {k : sh.Sem → Tr R} {Q : R → HS → Prop} (h : Runs env lf tbl d f args sh s P) (hn : d ≤ n)
    (h' : ∀ x s1, P x s1 → WP (k x) s1 Q) : WP (.op (ty3 sh (callT env lf tbl n (.fn f) args)) k) s Q := by
  obtain ⟨x, s1, h1, h2⟩ := h n hn
  refine WP.op (b := x) (s1 := s1) (bind_of h1 ?_) (h' x s1 h2)
  rw [S3.un_self]; rfl
end

theorem push_at (s : HS) (o : AObj) : (push s o).h.get s.c = some o := by rw [push_get, if_pos rfl]

/-! ### Growth -/

/-- What was there is as it was; only new blocks have been written. -/
structure Grow (s t : HS) : Prop where
  c : s.c ≤ t.c
  keep : ∀ b, b < s.c → t.h.get b = s.h.get b
  log : ∃ l, t.log = l ++ s.log ∧ ∀ b ∈ l, s.c ≤ b

theorem Grow.refl (s : HS) : Grow s s := ⟨Nat.le_refl _, fun _ _ => rfl, [], rfl, fun _ h => by cases h⟩
theorem Grow.trans {s t u : HS} (h : Grow s t) (h' : Grow t u) : Grow s u := by
  refine ⟨Nat.le_trans h.c h'.c, fun b hb => by rw [h'.keep b (by have := h.c; omega), h.keep b hb], ?_⟩
  obtain ⟨l, h1, h2⟩ := h.log
  obtain ⟨m, h3, h4⟩ := h'.log
  refine ⟨m ++ l, by rw [h3, h1, List.append_assoc], fun b hb => ?_⟩
  rcases List.mem_append.1 hb with hb | hb
  · have := h4 b hb; have := h.c; omega
  · exact h2 b hb
theorem Grow.push (s : HS) (o : AObj) : Grow s (push s o) := ⟨Nat.le_succ _, fun b hb => by rw [push_get, if_neg (by omega)], [], rfl, fun _ h => by cases h⟩
theorem Grow.upd {s t : HS} (h : Grow s t) {b : Nat} (hb : s.c ≤ b) (o : AObj) : Grow s (upd t b o) := by
  refine ⟨h.c, fun b' hb' => by rw [upd_get, if_neg (by omega)]; exact h.keep b' hb', ?_⟩
  obtain ⟨l, h1, h2⟩ := h.log
  refine ⟨b :: l, by rw [upd_log, h1]; rfl, fun b' hb' => ?_⟩
  rcases List.mem_cons.1 hb' with e | e
  · rw [e]; exact hb
  · exact h2 b' e
theorem Grow.then_push {s t : HS} (h : Grow s t) (o : AObj) : Grow s (Ax.push t o) := h.trans (Grow.push t o)

/-! ### Slices -/

/-- The slice's elements, cell by cell. -/
structure Hold (s : HS) (v : SV) (es : Nat) (L : List Value) : Prop where
  len : L.length = v.n * es
  at' : v.n = 0 ∨ ∃ b off es' ti ro C, v.a = some ⟨b, off, none⟩ ∧ s.h.get b = some (bx es' ti ro C) ∧ b < s.c ∧ off + v.n * es ≤ C.length ∧ (C.drop off).take (v.n * es) = L

theorem Hold.grow {s t : HS} {v : SV} {es : Nat} {L : List Value} (h : Hold s v es L) (g : Grow s t) : Hold t v es L := by
  refine ⟨h.len, ?_⟩
  rcases h.at' with h | ⟨b, off, es', ti, ro, C, h1, h2, h3, h4, h5⟩
  · exact .inl h
  · exact .inr ⟨b, off, es', ti, ro, C, h1, by rw [g.keep b h3]; exact h2, by have := g.c; omega, h4, h5⟩

theorem Hold.elem {s : HS} {v : SV} {es : Nat} {L : List Value} (h : Hold s v es L) {i : Nat} (hi : i < v.n) :
    ∃ b off es' ti ro C, v.a = some ⟨b, off, none⟩ ∧ s.h.get b = some (bx es' ti ro C) ∧ (off + i * es) + es ≤ C.length ∧ ∀ j m, j + m ≤ es → (C.drop (off + i * es + j)).take m = ((L.drop (i * es)).drop j).take m := by
  rcases h.at' with h0 | ⟨b, off, es', ti, ro, C, h1, h2, h3, h4, h5⟩
  · omega
  · have hle : i * es + es ≤ v.n * es := by rw [← Nat.succ_mul]; exact Nat.mul_le_mul_right es hi
    generalize v.n * es = N at hle h4 h5
    generalize i * es = a at hle ⊢
    refine ⟨b, off, es', ti, ro, C, h1, h2, by omega, fun j m hj => ?_⟩
    have hm : m ≤ N - (a + j) := by omega
    rw [← h5, List.drop_drop, List.drop_take, List.take_take, Nat.min_eq_left hm, List.drop_drop, Nat.add_assoc]

section
variable {R : Type} {s : HS} {Q : R → HS → Prop}

/-- An element is read. -/
theorem WP.elem {sh : S2} {v : SV} {es : Nat} {L : List Value} {kk : IntKind} {i : Nat} {x : sh.Sem} {k : Addr → sh.Sem → Tr R} (h : Hold s v es L) (hi : i < v.n) (he : sh.size = es)
    (hx : unCells sh ((L.drop (i * es)).take es) = some x) (h' : ∀ p, WP (k p x) s Q) : WP (.op (ixP es v.n v.a kk (i : Int)) fun p => .op (ldM sh (some p)) (k p)) s Q := by
  obtain ⟨b, off, es', ti, ro, C, h1, h2, h3, h4⟩ := h.elem hi
  rw [h1]
  refine WP.ix hi (WP.ld h2 (by rw [he]; exact h3) ?_ (h' _))
  have := h4 0 es (by omega)
  rw [Nat.add_zero] at this
  rw [he, this]
  exact hx
/-- A field of an element is read. -/
theorem WP.elemF {sh : S2} {v : SV} {es j : Nat} {L : List Value} {kk : IntKind} {i : Nat} {x : sh.Sem} {k : Addr → Addr → sh.Sem → Tr R} (h : Hold s v es L) (hi : i < v.n) (he : j + sh.size ≤ es)
    (hx : unCells sh (((L.drop (i * es)).drop j).take sh.size) = some x) (h' : ∀ p q, WP (k p q x) s Q) :
    WP (.op (ixP es v.n v.a kk (i : Int)) fun p => .op (fldM j (some p)) fun q => .op (ldM sh (some q)) (k p q)) s Q := by
  obtain ⟨b, off, es', ti, ro, C, h1, h2, h3, h4⟩ := h.elem hi
  rw [h1]
  refine WP.ix hi (WP.fld (WP.ld h2 (by show off + i * es + j + sh.size ≤ C.length; omega) ?_ (h' _ _)))
  rw [h4 j sh.size he]
  exact hx
end

/-- Lists of rows. -/
theorem flat_len {α : Type} {f : α → List Value} {es : Nat} (hf : ∀ x, (f x).length = es) : ∀ (xs : List α), (xs.flatMap f).length = xs.length * es
  | [] => by simp
  | x :: xs => by rw [List.flatMap_cons, List.length_append, hf, flat_len hf xs, List.length_cons, Nat.succ_mul]; omega
theorem flat_drop {α : Type} {f : α → List Value} {es : Nat} (hf : ∀ x, (f x).length = es) : ∀ (xs : List α) (i : Nat) (hi : i < xs.length), ((xs.flatMap f).drop (i * es)).take es = f xs[i]
  | x :: xs, 0, hi => by
    rw [Nat.zero_mul, List.drop_zero, List.flatMap_cons, List.take_append_of_le_length (by rw [hf]; exact Nat.le_refl _), List.take_of_length_le (by rw [hf]; exact Nat.le_refl _)]; rfl
  | x :: xs, i + 1, hi => by
    rw [List.flatMap_cons, show (i + 1) * es = (f x).length + i * es by rw [hf, Nat.succ_mul]; omega, List.drop_append, List.drop_of_length_le (by omega), List.nil_append, Nat.add_sub_cancel_left]
    exact flat_drop hf xs i (by simp at hi; omega)
theorem flat_part {α : Type} {f : α → List Value} {es : Nat} (hf : ∀ x, (f x).length = es) (xs : List α) (i : Nat) (hi : i < xs.length) (j m : Nat) (hj : j + m ≤ es) :
    (((xs.flatMap f).drop (i * es)).drop j).take m = ((f xs[i]).drop j).take m := by
  rw [← flat_drop hf xs i hi, List.drop_take, List.take_take, Nat.min_eq_left (by omega)]

/-- A small number stays what it is. -/
theorem wrap_small {i : Int} (h1 : -9223372036854775808 ≤ i) (h2 : i < 9223372036854775808) : wrapK .i64 i = i := by
  rw [wrapK_eq, wrap_s .i64 rfl]
  show (if (9223372036854775808 : Int) ≤ i % 18446744073709551616 then i % 18446744073709551616 - 18446744073709551616 else i % 18446744073709551616) = i
  split <;> omega
theorem wrap_up {i : Nat} (h : i < 9223372036854775807) : wrapK .i64 (Int.add (i : Int) 1) = ((i + 1 : Nat) : Int) := by
  rw [wrap_small (i := Int.add (i : Int) 1) (by show _ ≤ (i : Int) + 1; omega) (by show (i : Int) + 1 < _; omega)]; rfl
theorem wrap_down {i : Nat} (h : i < 9223372036854775807) : wrapK .i64 (Int.sub ((i + 1 : Nat) : Int) 1) = (i : Int) := by
  have e : Int.sub ((i + 1 : Nat) : Int) 1 = (i : Int) := by show ((i + 1 : Nat) : Int) - 1 = _; omega
  rw [e, wrap_small (by omega) (by omega)]

theorem splice_eq {β : Type} : ∀ (l L : List β) (off : Nat), off + l.length ≤ L.length → splice L off l = L.take off ++ l ++ L.drop (off + l.length)
  | [], L, off, h => by simp [splice]
  | x :: l, L, off, h => by
    have h' : off + (l.length + 1) ≤ L.length := h
    show splice (L.set off x) (off + 1) l = _
    rw [splice_eq l _ (off + 1) (by simp; omega)]
    have h1 : (L.set off x).take (off + 1) = L.take off ++ [x] := by
      rw [List.take_add_one, List.take_set_of_le (Nat.le_refl _)]
      rw [List.getElem?_set_self (by omega)]; rfl
    have h2 : (L.set off x).drop (off + 1 + l.length) = L.drop (off + (x :: l).length) := by
      rw [List.drop_set_of_lt (by omega)]
      congr 1
      simp; omega
    rw [h1, h2]; simp
theorem splice_all {β : Type} {l z : List β} (h : l.length = z.length) : splice z 0 l = l := by
  rw [splice_eq l z 0 (by omega)]
  simp [h]

section
variable {R : Type} {s : HS} {Q : R → HS → Prop}
/-- A local variable is laid and set. -/
theorem WP.newst {z l : List Value} {k : Nat → Unit → Tr R} (hl : l.length = z.length) (hc : allCells l = true) (h' : ∀ s1, Grow s s1 → s1.c = s.c + 1 → s1.h.get s.c = some (bx 1 true false l) → WP (k s.c ()) s1 Q) :
    WP (.op (newM z) fun x => .op (stM l (some ⟨x, 0, none⟩)) (k x)) s Q := by
  refine WP.new (WP.st (push_at _ _) hc (by omega) ?_)
  rw [splice_all hl]
  exact h' _ ((Grow.push s _).upd (Nat.le_refl _) _) rfl (by rw [upd_get, if_pos rfl])
/-- A field is read. -/
theorem WP.field {sh : S2} {b j es : Nat} {ti ro : Bool} {L : List Value} {x : sh.Sem} {k : Addr → sh.Sem → Tr R} (hg : s.h.get b = some (bx es ti ro L)) (hb : j + sh.size ≤ L.length)
    (hx : unCells sh ((L.drop j).take sh.size) = some x) (h : ∀ q, WP (k q x) s Q) : WP (.op (fldM j (some ⟨b, 0, none⟩)) fun q => .op (ldM sh (some q)) (k q)) s Q := by
  refine WP.fld (WP.ld hg (by show 0 + j + sh.size ≤ L.length; omega) ?_ (h _))
  show unCells sh ((L.drop (0 + j)).take sh.size) = some x
  rw [Nat.zero_add]; exact hx
end

theorem lt_nat {i n : Nat} (h : iLt (i : Int) (Int.ofNat n) = true) : i < n := by
  rw [iLt_eq] at h; have := of_decide_eq_true h; exact Int.ofNat_lt.1 this
theorem ge_nat {i n : Nat} (h : iLt (i : Int) (Int.ofNat n) = false) : n ≤ i := by
  rw [iLt_eq] at h; have := of_decide_eq_false h; have := mt Int.ofNat_lt.2 this; omega
theorem iLt_t {a b : Int} (h : iLt a b = true) : a < b := by rw [iLt_eq] at h; exact of_decide_eq_true h
theorem iLt_f {a b : Int} (h : iLt a b = false) : b ≤ a := by rw [iLt_eq] at h; have := of_decide_eq_false h; omega
theorem iLe_t {a b : Int} (h : iLe a b = true) : a ≤ b := by rw [iLe_eq] at h; exact of_decide_eq_true h
theorem iLe_f {a b : Int} (h : iLe a b = false) : b < a := by rw [iLe_eq] at h; have := of_decide_eq_false h; omega
theorem iEq_t {a b : Int} (h : iEq a b = true) : a = b := by rw [iEq_eq] at h; exact of_decide_eq_true h
theorem iEq_f {a b : Int} (h : iEq a b = false) : a ≠ b := by rw [iEq_eq] at h; exact of_decide_eq_false h
theorem not_t {b : Bool} (h : Bool.not b = true) : b = false := by cases b <;> simp_all
theorem not_f {b : Bool} (h : Bool.not b = false) : b = true := by cases b <;> simp_all
end Go.Ax
