/- Contracts of calls; growth of the heap; slices that hold lists.
Conditions: none. -/
import Derived.Test.YtjlhclmgjdabfaaGreatAxL
namespace Go.Ax
set_option linter.unusedSectionVars false
set_option linter.unusedVariables false
set_option linter.unusedSimpArgs false

/-! ### Shapes, there and back -/

theorem S1.un_self : ∀ {s : S1} (x : s.Sem), s.un (s.mk x) = some x := by
  intro s x
  cases s with
  | int k =>
    show (match nEq k k with | true => some x | false => none) = some x
    rw [(nEq_iff k k).2 rfl]
  | _ => rfl
theorem S1.unL_self : ∀ {l : List S1} (x : S1.SemL l), S1.unL l (S1.mkL l x) = some x
  | [], x => rfl
  | s :: l, x => by
    show pairO (s.un (s.mk x.1)) (S1.unL l (S1.mkL l x.2)) = some x
    rw [S1.un_self, S1.unL_self]; rfl
theorem S2.un_self {s : S2} (x : s.Sem) : s.un (s.mk x) = some x := by
  cases s with
  | one y => exact S1.un_self x
  | agg l => exact S1.unL_self x
  | big n => rfl
theorem S2.unL_self : ∀ {l : List S2} (x : S2.SemL l), S2.unL l (S2.mkL l x) = some x
  | [], x => rfl
  | s :: l, x => by
    show pairO (s.un (s.mk x.1)) (S2.unL l (S2.mkL l x.2)) = some x
    rw [S2.un_self, S2.unL_self]; rfl
theorem S3.un_self {s : S3} (x : s.Sem) : s.un (s.mk x) = some x := by
  cases s with
  | v y => exact S2.un_self x
  | tup l => exact S2.unL_self x
/-! ### Calls -/

/-- A call at depth d or more comes to an end, with a result and a state as said. -/
def Runs (env : Env) (lf : Nat) (tbl : Tbl) (d f : Nat) (args : List Value) (sh : S3) (s : HS) (Q : sh.Sem → HS → Prop) : Prop :=
  ∀ n, d ≤ n → ∃ x s', callT env lf tbl n (.fn f) args s = some (sh.mk x, s') ∧ Q x s'

section
variable {env : Env} {lf : Nat} {tbl : Tbl} {R : Type}

theorem Runs.of {shT : Nat → Option S3} {d f : Nat} {fn : Func} {args : List Value} {sh : S3} {s : HS} {Q : sh.Sem → HS → Prop} (t : CallH → Tr Value) (hf : env.fn.get f = some fn) (ht : tbl f args = none)
    (hg : ∀ call, gFn shT env call lf args fn = t call) (h : ∀ n, d ≤ n → WP (t (callT env lf tbl n)) s fun v s' => ∃ x, v = sh.mk x ∧ Q x s') : Runs env lf tbl (d + 1) f args sh s Q := by
  intro n hn
  obtain ⟨m, rfl⟩ : ∃ m, n = m + 1 := ⟨n - 1, by omega⟩
  obtain ⟨v, s', h1, x, h2, h3⟩ := h m (by omega)
  subst h2
  exact ⟨x, s', callT_gFn hf ht (hg _) h1, h3⟩

theorem Runs.mono {d d' f : Nat} {args : List Value} {sh : S3} {s : HS} {Q Q' : sh.Sem → HS → Prop} (h : Runs env lf tbl d f args sh s Q) (hd : d ≤ d') (h' : ∀ x s', Q x s' → Q' x s') : Runs env lf tbl d' f args sh s Q' := fun n hn => by
  obtain ⟨x, s', h1, h2⟩ := h n (by omega)
  exact ⟨x, s', h1, h' _ _ h2⟩

theorem WP.call {d f n : Nat} {args : List Value} {sh : S3} {s : HS} {P : sh.Sem → HS → Prop} {k : sh.Sem → Tr R} {Q : R → HS → Prop} (h : Runs env lf tbl d f args sh s P) (hn : d ≤ n)
    (h' : ∀ x s1, P x s1 → WP (k x) s1 Q) : WP (.op (ty3 sh (callT env lf tbl n (.fn f) args)) k) s Q := by
  obtain ⟨x, s1, h1, h2⟩ := h n hn
  refine WP.op (b := x) (s1 := s1) (bind_of h1 ?_) (h' x s1 h2)
  rw [S3.un_self]; rfl
end

theorem push_at (s : HS) (o : AObj) : (push s o).h.get s.c = some o := by rw [push_get, if_pos rfl]

/-! ### Growth -/

/-- What was there is as it was; only new blocks have been written. -/
structure Grow (s t : HS) : Prop where
  c : s.c ≤ t.c
  keep : ∀ b, b < s.c → t.h.get b = s.h.get b
  log : ∃ l, t.log = l ++ s.log ∧ ∀ b ∈ l, s.c ≤ b

theorem Grow.refl (s : HS) : Grow s s := ⟨Nat.le_refl _, fun _ _ => rfl, [], rfl, fun _ h => by cases h⟩
theorem Grow.trans {s t u : HS} (h : Grow s t) (h' : Grow t u) : Grow s u := by
  refine ⟨Nat.le_trans h.c h'.c, fun b hb => by rw [h'.keep b (by have := h.c; omega), h.keep b hb], ?_⟩
  obtain ⟨l, h1, h2⟩ := h.log
  obtain ⟨m, h3, h4⟩ := h'.log
  refine ⟨m ++ l, by rw [h3, h1, List.append_assoc], fun b hb => ?_⟩
  rcases List.mem_append.1 hb with hb | hb
  · have := h4 b hb; have := h.c; omega
  · exact h2 b hb
theorem Grow.push (s : HS) (o : AObj) : Grow s (push s o) := ⟨Nat.le_succ _, fun b hb => by rw [push_get, if_neg (by omega)], [], rfl, fun _ h => by cases h⟩
theorem Grow.upd {s t : HS} (h : Grow s t) {b : Nat} (hb : s.c ≤ b) (o : AObj) : Grow s (upd t b o) := by
  refine ⟨h.c, fun b' hb' => by rw [upd_get, if_neg (by omega)]; exact h.keep b' hb', ?_⟩
  obtain ⟨l, h1, h2⟩ := h.log
  refine ⟨b :: l, by rw [upd_log, h1]; rfl, fun b' hb' => ?_⟩
  rcases List.mem_cons.1 hb' with e | e
  · rw [e]; exact hb
  · exact h2 b' e
theorem Grow.then_push {s t : HS} (h : Grow s t) (o : AObj) : Grow s (Ax.push t o) := h.trans (Grow.push t o)

/-! ### Slices -/

/-- The slice's elements, cell by cell. -/
structure Hold (s : HS) (v : SV) (es : Nat) (L : List Value) : Prop where
  len : L.length = v.n * es
  at' : v.n = 0 ∨ ∃ b off es' ti ro C, v.a = some ⟨b, off, none⟩ ∧ s.h.get b = some (bx es' ti ro C) ∧ b < s.c ∧ off + v.n * es ≤ C.length ∧ (C.drop off).take (v.n * es) = L

theorem Hold.grow {s t : HS} {v : SV} {es : Nat} {L : List Value} (h : Hold s v es L) (g : Grow s t) : Hold t v es L := by
  refine ⟨h.len, ?_⟩
  rcases h.at' with h | ⟨b, off, es', ti, ro, C, h1, h2, h3, h4, h5⟩
  · exact .inl h
  · exact .inr ⟨b, off, es', ti, ro, C, h1, by rw [g.keep b h3]; exact h2, by have := g.c; omega, h4, h5⟩

theorem Hold.elem {s : HS} {v : SV} {es : Nat} {L : List Value} (h : Hold s v es L) {i : Nat} (hi : i < v.n) :
    ∃ b off es' ti ro C, v.a = some ⟨b, off, none⟩ ∧ s.h.get b = some (bx es' ti ro C) ∧ (off + i * es) + es ≤ C.length ∧ ∀ j m, j + m ≤ es → (C.drop (off + i * es + j)).take m = ((L.drop (i * es)).drop j).take m := by
  rcases h.at' with h0 | ⟨b, off, es', ti, ro, C, h1, h2, h3, h4, h5⟩
  · omega
  · have hle : i * es + es ≤ v.n * es := by rw [← Nat.succ_mul]; exact Nat.mul_le_mul_right es hi
    generalize v.n * es = N at hle h4 h5
    generalize i * es = a at hle ⊢
    refine ⟨b, off, es', ti, ro, C, h1, h2, by omega, fun j m hj => ?_⟩
    have hm : m ≤ N - (a + j) := by omega
    rw [← h5, List.drop_drop, List.drop_take, List.take_take, Nat.min_eq_left hm, List.drop_drop, Nat.add_assoc]

section
variable {R : Type} {s : HS} {Q : R → HS → Prop}

/-- An element is read. -/
theorem WP.elem {sh : S2} {v : SV} {es : Nat} {L : List Value} {kk : IntKind} {i : Nat} {x : sh.Sem} {k : Addr → sh.Sem → Tr R} (h : Hold s v es L) (hi : i < v.n) (he : sh.size = es)
    (hx : unCells sh ((L.drop (i * es)).take es) = some x) (h' : ∀ p, WP (k p x) s Q) : WP (.op (ixP es v.n v.a kk (i : Int)) fun p => .op (ldM sh (some p)) (k p)) s Q := by
  obtain ⟨b, off, es', ti, ro, C, h1, h2, h3, h4⟩ := h.elem hi
  rw [h1]
  refine WP.ix hi (WP.ld h2 (by rw [he]; exact h3) ?_ (h' _))
  have := h4 0 es (by omega)
  rw [Nat.add_zero] at this
  rw [he, this]
  exact hx
/-- A field of an element is read. -/
theorem WP.elemF {sh : S2} {v : SV} {es j : Nat} {L : List Value} {kk : IntKind} {i : Nat} {x : sh.Sem} {k : Addr → Addr → sh.Sem → Tr R} (h : Hold s v es L) (hi : i < v.n) (he : j + sh.size ≤ es)
    (hx : unCells sh (((L.drop (i * es)).drop j).take sh.size) = some x) (h' : ∀ p q, WP (k p q x) s Q) :
    WP (.op (ixP es v.n v.a kk (i : Int)) fun p => .op (fldM j (some p)) fun q => .op (ldM sh (some q)) (k p q)) s Q := by
  obtain ⟨b, off, es', ti, ro, C, h1, h2, h3, h4⟩ := h.elem hi
  rw [h1]
  refine WP.ix hi (WP.fld (WP.ld h2 (by show off + i * es + j + sh.size ≤ C.length; omega) ?_ (h' _ _)))
  rw [h4 j sh.size he]
  exact hx
end

/-- Lists of rows. -/
theorem flat_len {α : Type} {f : α → List Value} {es : Nat} (hf : ∀ x, (f x).length = es) : ∀ (xs : List α), (xs.flatMap f).length = xs.length * es
  | [] => by simp
  | x :: xs => by rw [List.flatMap_cons, List.length_append, hf, flat_len hf xs, List.length_cons, Nat.succ_mul]; omega
theorem flat_drop {α : Type} {f : α → List Value} {es : Nat} (hf : ∀ x, (f x).length = es) : ∀ (xs : List α) (i : Nat) (hi : i < xs.length), ((xs.flatMap f).drop (i * es)).take es = f xs[i]
  | x :: xs, 0, hi => by
    rw [Nat.zero_mul, List.drop_zero, List.flatMap_cons, List.take_append_of_le_length (by rw [hf]; exact Nat.le_refl _), List.take_of_length_le (by rw [hf]; exact Nat.le_refl _)]; rfl
  | x :: xs, i + 1, hi => by
    rw [List.flatMap_cons, show (i + 1) * es = (f x).length + i * es by rw [hf, Nat.succ_mul]; omega, List.drop_append, List.drop_of_length_le (by omega), List.nil_append, Nat.add_sub_cancel_left]
    exact flat_drop hf xs i (by simp at hi; omega)
theorem flat_part {α : Type} {f : α → List Value} {es : Nat} (hf : ∀ x, (f x).length = es) (xs : List α) (i : Nat) (hi : i < xs.length) (j m : Nat) (hj : j + m ≤ es) :
    (((xs.flatMap f).drop (i * es)).drop j).take m = ((f xs[i]).drop j).take m := by
  rw [← flat_drop hf xs i hi, List.drop_take, List.take_take, Nat.min_eq_left (by omega)]

/-- A small number stays what it is. -/
theorem wrap_small {i : Int} (h1 : -9223372036854775808 ≤ i) (h2 : i < 9223372036854775808) : wrapK .i64 i = i := by
  rw [wrapK_eq, wrap_s .i64 rfl]
  show (if (9223372036854775808 : Int) ≤ i % 18446744073709551616 then i % 18446744073709551616 - 18446744073709551616 else i % 18446744073709551616) = i
  split <;> omega
theorem wrap_up {i : Nat} (h : i < 9223372036854775807) : wrapK .i64 (Int.add (i : Int) 1) = ((i + 1 : Nat) : Int) := by
  rw [wrap_small (i := Int.add (i : Int) 1) (by show _ ≤ (i : Int) + 1; omega) (by show (i : Int) + 1 < _; omega)]; rfl
theorem wrap_down {i : Nat} (h : i < 9223372036854775807) : wrapK .i64 (Int.sub ((i + 1 : Nat) : Int) 1) = (i : Int) := by
  have e : Int.sub ((i + 1 : Nat) : Int) 1 = (i : Int) := by show ((i + 1 : Nat) : Int) - 1 = _; omega
  rw [e, wrap_small (by omega) (by omega)]

theorem splice_eq {β : Type} : ∀ (l L : List β) (off : Nat), off + l.length ≤ L.length → splice L off l = L.take off ++ l ++ L.drop (off + l.length)
  | [], L, off, h => by simp [splice]
  | x :: l, L, off, h => by
    have h' : off + (l.length + 1) ≤ L.length := h
    show splice (L.set off x) (off + 1) l = _
    rw [splice_eq l _ (off + 1) (by simp; omega)]
    have h1 : (L.set off x).take (off + 1) = L.take off ++ [x] := by
      rw [List.take_add_one, List.take_set_of_le (Nat.le_refl _)]
      rw [List.getElem?_set_self (by omega)]; rfl
    have h2 : (L.set off x).drop (off + 1 + l.length) = L.drop (off + (x :: l).length) := by
      rw [List.drop_set_of_lt (by omega)]
      congr 1
      simp; omega
    rw [h1, h2]; simp
theorem splice_all {β : Type} {l z : List β} (h : l.length = z.length) : splice z 0 l = l := by
  rw [splice_eq l z 0 (by omega)]
  simp [h]

section
variable {R : Type} {s : HS} {Q : R → HS → Prop}
/-- A local variable is laid and set. -/
theorem WP.newst {z l : List Value} {k : Nat → Unit → Tr R} (hl : l.length = z.length) (hc : allCells l = true) (h' : ∀ s1, Grow s s1 → s1.c = s.c + 1 → s1.h.get s.c = some (bx 1 true false l) → WP (k s.c ()) s1 Q) :
    WP (.op (newM z) fun x => .op (stM l (some ⟨x, 0, none⟩)) (k x)) s Q := by
  refine WP.new (WP.st (push_at _ _) hc (by omega) ?_)
  rw [splice_all hl]
  exact h' _ ((Grow.push s _).upd (Nat.le_refl _) _) rfl (by rw [upd_get, if_pos rfl])
/-- A field is read. -/
theorem WP.field {sh : S2} {b j es : Nat} {ti ro : Bool} {L : List Value} {x : sh.Sem} {k : Addr → sh.Sem → Tr R} (hg : s.h.get b = some (bx es ti ro L)) (hb : j + sh.size ≤ L.length)
    (hx : unCells sh ((L.drop j).take sh.size) = some x) (h : ∀ q, WP (k q x) s Q) : WP (.op (fldM j (some ⟨b, 0, none⟩)) fun q => .op (ldM sh (some q)) (k q)) s Q := by
  refine WP.fld (WP.ld hg (by show 0 + j + sh.size ≤ L.length; omega) ?_ (h _))
  show unCells sh ((L.drop (0 + j)).take sh.size) = some x
  rw [Nat.zero_add]; exact hx
end

theorem lt_nat {i n : Nat} (h : iLt (i : Int) (Int.ofNat n) = true) : i < n := by
  rw [iLt_eq] at h; have := of_decide_eq_true h; exact Int.ofNat_lt.1 this
theorem ge_nat {i n : Nat} (h : iLt (i : Int) (Int.ofNat n) = false) : n ≤ i := by
  rw [iLt_eq] at h; have := of_decide_eq_false h; have := mt Int.ofNat_lt.2 this; omega
theorem iLt_t {a b : Int} (h : iLt a b = true) : a < b := by rw [iLt_eq] at h; exact of_decide_eq_true h
theorem iLt_f {a b : Int} (h : iLt a b = false) : b ≤ a := by rw [iLt_eq] at h; have := of_decide_eq_false h; omega
theorem iLe_t {a b : Int} (h : iLe a b = true) : a ≤ b := by rw [iLe_eq] at h; exact of_decide_eq_true h
theorem iLe_f {a b : Int} (h : iLe a b = false) : b < a := by rw [iLe_eq] at h; have := of_decide_eq_false h; omega
theorem iEq_t {a b : Int} (h : iEq a b = true) : a = b := by rw [iEq_eq] at h; exact of_decide_eq_true h
theorem iEq_f {a b : Int} (h : iEq a b = false) : a ≠ b := by rw [iEq_eq] at h; exact of_decide_eq_false h
theorem not_t {b : Bool} (h : Bool.not b = true) : b = false := by cases b <;> simp_all
theorem not_f {b : Bool} (h : Bool.not b = false) : b = true := by cases b <;> simp_all
end Go.Ax

/- Slices that grow.
Conditions: none. -/
namespace Go.Ax
set_option linter.unusedSectionVars false
set_option linter.unusedVariables false
set_option linter.unusedSimpArgs false

theorem Grow.del {s t : HS} (h : Grow s t) {b : Nat} (hb : s.c ≤ b) {u : HS} (hu : delObj b t = some ((), u)) : Grow s u := by
  unfold delObj at hu
  cases hg : t.h.get b with
  | none => rw [hg] at hu; cases hu
  | some o =>
    rw [hg] at hu
    injection hu with hu; injection hu with _ hu
    subst hu
    refine ⟨h.c, fun b' hb' => by show (t.h.del b).get b' = _; rw [T.get_del, if_neg (by omega)]; exact h.keep b' hb', ?_⟩
    obtain ⟨l, h1, h2⟩ := h.log
    refine ⟨b :: l, by show b :: t.log = _; rw [h1]; rfl, fun b' hb' => ?_⟩
    rcases List.mem_cons.1 hb' with e | e
    · rw [e]; exact hb
    · exact h2 b' e

/-- A slice that has been made by appending to nil: its block is its own. -/
structure Own (lo : Nat) (s : HS) (v : SV) (es : Nat) (L : List Value) : Prop where
  len : L.length = v.n * es
  cap : v.c = v.n
  at' : (v.a = none ∧ v.n = 0) ∨ ∃ b, v.a = some ⟨b, 0, none⟩ ∧ lo ≤ b ∧ b < s.c ∧ s.h.get b = some (bx es false false L) ∧ 0 < v.n

theorem Own.nil (lo : Nat) (s : HS) (es : Nat) : Own lo s ⟨none, 0, 0⟩ es [] := ⟨by simp, rfl, .inl ⟨rfl, rfl⟩⟩
theorem Own.hold {lo : Nat} {s : HS} {v : SV} {es : Nat} {L : List Value} (h : Own lo s v es L) : Hold s v es L := by
  refine ⟨h.len, ?_⟩
  rcases h.at' with ⟨_, h2⟩ | ⟨b, h1, h2, h3, h4, h5⟩
  · exact .inl h2
  · exact .inr ⟨b, 0, es, false, false, L, h1, h4, h3, by rw [h.len]; omega, by rw [List.drop_zero, ← h.len, List.take_length]⟩
theorem Own.keep {lo : Nat} {s t : HS} {v : SV} {es : Nat} {L : List Value} (h : Own lo s v es L) (hc : s.c ≤ t.c) (hk : ∀ b, v.a = some ⟨b, 0, none⟩ → t.h.get b = s.h.get b) : Own lo t v es L := by
  refine ⟨h.len, h.cap, ?_⟩
  rcases h.at' with h1 | ⟨b, h1, h2, h3, h4, h5⟩
  · exact .inl h1
  · exact .inr ⟨b, h1, h2, by omega, by rw [hk b h1]; exact h4, h5⟩
theorem Own.grow {lo : Nat} {s t : HS} {v : SV} {es : Nat} {L : List Value} (h : Own lo s v es L) (g : Grow s t) : Own lo t v es L := by
  refine ⟨h.len, h.cap, ?_⟩
  rcases h.at' with h1 | ⟨b, h1, h2, h3, h4, h5⟩
  · exact .inl h1
  · exact .inr ⟨b, h1, h2, by have := g.c; omega, by rw [g.keep b h3]; exact h4, h5⟩

theorem bsM_one {es : Nat} {zero : List Value} {v : Value} {s : HS} (hz : zero.length = es) (hv : (cellsOf v).length = es) (he : es ≤ 10000) :
    bsM es 1 zero [(0, v)] s = some (s.c, push s (bx es true false (cellsOf v))) := by
  unfold bsM
  rw [nble, decide_eq_true (show Nat.mul 1 es ≤ 10000 by show 1 * es ≤ _; omega)]
  show bsK es (Nat.mul 1 es) (match Nat.beq (lenL (cellsOf v)) es with
    | false => none
    | true => match Nat.ble (Nat.add (Nat.mul 0 es) es) (Nat.mul 1 es) with
      | false => none
      | true => some (T.write (cellsOf v) (T.ofList (repL zero 1)) (Nat.mul 0 es))) s = _
  rw [lenL_eq, hv, T.nbeq, decide_eq_true rfl, nble, decide_eq_true (show Nat.add (Nat.mul 0 es) es ≤ Nat.mul 1 es by show 0 * es + es ≤ 1 * es; omega)]
  have hr : repL zero 1 = zero := by rw [repL_succ, repL_zero, List.append_nil]
  show newObj (.cells (Nat.mul 1 es) es true false (T.write (cellsOf v) (T.ofList (repL zero 1)) (Nat.mul 0 es))) s = _
  rw [hr, show Nat.mul 0 es = 0 from Nat.zero_mul es, T.write_ofList _ _ _ (by omega), splice_all (by omega), newObj_run, show Nat.mul 1 es = (cellsOf v).length by rw [hv]; exact Nat.one_mul es]
  rfl

theorem bind_run {α β : Type} {m : M α} {k : α → M β} {s s1 : HS} {a : α} (h : m s = some (a, s1)) : M.bind m k s = k a s1 := bind_of h rfl

/-- Appending to such a slice. -/
theorem apM_own {lo es bytes : Nat} {s : HS} {v : SV} {L new C : List Value} {c n off es' : Nat} {ti ro : Bool} (h : Own lo s v es L) (hlo : lo ≤ s.c) (hn : 0 < n) (hc : s.h.get c = some (bx es' ti ro C)) (hnew : (C.drop off).take (n * es) = new)
    (hC : off + n * es ≤ C.length) (hes : 0 < es) (hcell : allCells new = true) (hsz : (v.n + n) * (bytes + 1) ≤ 1000000) (cp : Nat) :
    ∃ s', apM es bytes (.slice v.a v.n v.c) (.slice (some ⟨c, off, none⟩) n cp) s = some (⟨some ⟨s.c, 0, none⟩, v.n + n, v.n + n⟩, s') ∧ Own lo s' ⟨some ⟨s.c, 0, none⟩, v.n + n, v.n + n⟩ es (L ++ new) ∧
      s'.c = s.c + 1 ∧ (∀ b, b ≠ s.c → (∀ a, v.a = some a → b ≠ a.block) → s'.h.get b = s.h.get b) ∧ (∀ t, t.c ≤ lo → Grow t s → Grow t s') := by
  have hnl : new.length = n * es := by rw [← hnew, List.length_take, List.length_drop]; omega
  have hload : firstN es n (.slice (some ⟨c, off, none⟩) n cp) s = some (new, s) := by
    show (match Nat.beq n 0 with
      | true => M.pure []
      | false => match Nat.ble n n with
        | true => loadN ⟨c, off, none⟩ (Nat.mul n es)
        | false => M.fail) s = _
    rw [T.nbeq, decide_eq_false (by omega), nble, decide_eq_true (Nat.le_refl n)]
    show loadN ⟨c, off, none⟩ (n * es) s = _
    rw [loadN_run hc hC, hnew]
  have step : ∀ r, appendK es n new v.a v.n v.c s = r → M.bind (appendV es bytes (.slice v.a v.n v.c) (.slice (some ⟨c, off, none⟩) n cp)) svK s = M.bind (fun _ => r) svK s := by
    intro r hr
    have : appendV es bytes (.slice v.a v.n v.c) (.slice (some ⟨c, off, none⟩) n cp) s = r := by
      show M.bind (firstN es n (.slice (some ⟨c, off, none⟩) n cp)) (fun new => appendN es bytes n new (.slice v.a v.n v.c)) s = r
      rw [bind_run hload]
      show (match Nat.ble (Nat.mul (Nat.add v.n n) (Nat.add bytes 1)) 1000000 with
        | true => match allCells new with
          | true => match Nat.beq (lenL new) (Nat.mul n es) with
            | true => match Nat.beq n 0 with
              | true => ret (.slice v.a v.n v.c)
              | false => appendK es n new v.a v.n v.c
            | false => M.fail
          | false => M.fail
        | false => M.fail) s = r
      rw [nble, decide_eq_true (show Nat.mul (Nat.add v.n n) (Nat.add bytes 1) ≤ 1000000 from hsz), hcell, lenL_eq, T.nbeq, decide_eq_true (show new.length = Nat.mul n es from hnl), T.nbeq, decide_eq_false (by omega)]
      exact hr
    unfold M.bind
    rw [this]
  have hfresh : ∀ (m : Nat) (l : List Value) (t : HS), freshSlice es m l t = some (pSlice m m t.c, push t (bx es false false l)) := by
    intro m l t
    unfold freshSlice mapM
    rw [bind_run (newCells_run es (lenL l) false l t (lenL_eq l))]; rfl
  unfold apM
  rcases h.at' with ⟨h1, h2⟩ | ⟨b, h1, h2, h3, h4, h5⟩
  · have hL : L = [] := by have := h.len; rw [h2, Nat.zero_mul] at this; exact List.eq_nil_of_length_eq_zero this
    refine ⟨push s (bx es false false new), ?_, ⟨?_, rfl, .inr ⟨s.c, rfl, hlo, Nat.lt_succ_self _, ?_, by show 0 < v.n + n; omega⟩⟩, rfl, fun b hb _ => by rw [push_get, if_neg hb], fun t ht g => g.then_push _⟩
    · have hA : appendK es n new v.a v.n v.c s = some (pSlice n n s.c, push s (bx es false false new)) := by
        rw [h1, h.cap, h2]
        show (match Nat.beq 0 0 with
          | true => freshSlice es n new
          | false => M.fail) s = _
        exact hfresh n new s
      rw [step _ hA, h2, Nat.zero_add]; rfl
    · rw [hL, List.nil_append, hnl, h2, Nat.zero_add]
    · rw [hL, List.nil_append]; exact push_at _ _
  · have hload2 : firstN es v.n (.slice (some ⟨b, 0, none⟩) v.n v.c) s = some (L, s) := by
      show (match Nat.beq v.n 0 with
        | true => M.pure []
        | false => match Nat.ble v.n v.n with
          | true => loadN ⟨b, 0, none⟩ (Nat.mul v.n es)
          | false => M.fail) s = _
      rw [T.nbeq, decide_eq_false (by omega), nble, decide_eq_true (Nat.le_refl _)]
      show loadN ⟨b, 0, none⟩ (v.n * es) s = _
      rw [loadN_run h4 (by rw [h.len]; omega), ← h.len, List.drop_zero, List.take_length]
    have hget : getObj b s = some (bx es false false L, s) := by unfold getObj; rw [h4]; rfl
    have hdel : delObj b s = some ((), { h := s.h.del b, c := s.c, log := b :: s.log }) := by unfold delObj; rw [h4]; rfl
    have hcons : consume b es (bx es false false L) s = some ((), { h := s.h.del b, c := s.c, log := b :: s.log }) := by
      show (match Nat.beq es es with
        | true => delObj b
        | false => M.fail) s = _
      rw [T.nbeq, decide_eq_true rfl]; exact hdel
    refine ⟨push { h := s.h.del b, c := s.c, log := b :: s.log } (bx es false false (L ++ new)), ?_, ⟨?_, rfl, .inr ⟨s.c, rfl, hlo, Nat.lt_succ_self _, push_at _ _, by show 0 < v.n + n; omega⟩⟩, rfl, fun b' hb hb' => ?_, fun t ht g => (g.del (by omega) hdel).then_push _⟩
    · have hA : appendK es n new v.a v.n v.c s = some (pSlice (v.n + n) (v.n + n) s.c, push { h := s.h.del b, c := s.c, log := b :: s.log } (bx es false false (L ++ new))) := by
        rw [h1]
        show (match Nat.ble (Nat.add v.n n) v.c with
          | true => _
          | false => match Nat.beq v.c 0 with
            | true => _
            | false => M.bind (firstN es v.n (.slice (some ⟨b, 0, none⟩) v.n v.c)) fun old => M.bind (getObj b) fun o => M.bind (consume b es o) fun _ =>
                force (Nat.add v.n n) fun m => freshSlice es m (appL old new)) s = _
        rw [nble, decide_eq_false (show ¬ Nat.add v.n n ≤ v.c by rw [h.cap]; show ¬ v.n + n ≤ v.n; omega), T.nbeq, decide_eq_false (show v.c ≠ 0 by rw [h.cap]; omega)]
        show M.bind (firstN es v.n (.slice (some ⟨b, 0, none⟩) v.n v.c)) _ s = _
        rw [bind_run hload2, bind_run hget, bind_run hcons, force_eq, hfresh, appL_eq]; rfl
      rw [step _ hA]; rfl
    · rw [List.length_append, h.len, hnl, ← Nat.add_mul]
    · rw [push_get, if_neg hb]
      show (s.h.del b).get b' = _
      rw [T.get_del, if_neg (hb' _ h1)]

section
variable {R : Type} {s : HS} {Q : R → HS → Prop}
/-- One element is appended. -/
theorem WP.app1 {lo es bytes : Nat} {zero : List Value} {val : Value} {v : SV} {L : List Value} {k : Nat → SV → Tr R} (h : Own lo s v es L) (hlo : lo ≤ s.c) (hz : zero.length = es) (hv : (cellsOf val).length = es) (hes : 0 < es) (he : es ≤ 10000)
    (hcell : allCells (cellsOf val) = true) (hsz : (v.n + 1) * (bytes + 1) ≤ 1000000)
    (h' : ∀ c v' s', v'.n = v.n + 1 → Own lo s' v' es (L ++ cellsOf val) → s.c ≤ s'.c → (∀ b, b < s.c → (∀ a, v.a = some a → b ≠ a.block) → s'.h.get b = s.h.get b) → (∀ t, t.c ≤ lo → Grow t s → Grow t s') → WP (k c v') s' Q) :
    WP (.op (bsM es 1 zero [(0, val)]) fun c => .op (apM es bytes (.slice v.a v.n v.c) (.slice (some ⟨c, 0, none⟩) 1 1)) (k c)) s Q := by
  refine WP.op (bsM_one hz hv he) ?_
  obtain ⟨s', h1, h2, h3, h4, h5⟩ := apM_own (bytes := bytes) (h.grow (Grow.push s (bx es true false (cellsOf val)))) (n := 1) (off := 0) (by show lo ≤ s.c + 1; omega) (by omega) (push_at _ _) (by rw [List.drop_zero, Nat.one_mul, ← hv, List.take_length]) (by omega) hes hcell hsz 1
  refine WP.op h1 (h' _ _ s' rfl h2 (by rw [h3, push_c]; omega) (fun b hb hb' => ?_) fun t ht g => h5 t ht (g.then_push _))
  rw [h4 b (by rw [push_c]; omega) hb', push_get, if_neg (by omega)]
end
end Go.Ax

/- Slices that hold lists in blocks of a kind; calls within an open order; parts of slices.
Conditions: none. -/
namespace Go.Ax
set_option linter.unusedSectionVars false
set_option linter.unusedVariables false
set_option linter.unusedSimpArgs false

/-- The slice's elements lie in a block of which A holds. -/
structure HoldA (A : Nat → Prop) (s : HS) (v : SV) (es : Nat) (L : List Value) : Prop where
  len : L.length = v.n * es
  at' : v.n = 0 ∨ ∃ b off es' ti ro C, v.a = some ⟨b, off, none⟩ ∧ A b ∧ s.h.get b = some (bx es' ti ro C) ∧ b < s.c ∧ off + v.n * es ≤ C.length ∧ (C.drop off).take (v.n * es) = L ∧ (ti = true ∨ es = es')

theorem HoldA.hold {A : Nat → Prop} {s : HS} {v : SV} {es : Nat} {L : List Value} (h : HoldA A s v es L) : Hold s v es L := by
  refine ⟨h.len, ?_⟩
  rcases h.at' with h | ⟨b, off, es', ti, ro, C, h1, _, h2, h3, h4, h5, _⟩
  · exact .inl h
  · exact .inr ⟨b, off, es', ti, ro, C, h1, h2, h3, h4, h5⟩
theorem HoldA.mono {A B : Nat → Prop} {s : HS} {v : SV} {es : Nat} {L : List Value} (h : HoldA A s v es L) (hA : ∀ b, b < s.c → A b → B b) : HoldA B s v es L := by
  refine ⟨h.len, ?_⟩
  rcases h.at' with h | ⟨b, off, es', ti, ro, C, h1, h0, h2, h3, h4, h5⟩
  · exact .inl h
  · exact .inr ⟨b, off, es', ti, ro, C, h1, hA b h3 h0, h2, h3, h4, h5⟩
theorem HoldA.keep {A : Nat → Prop} {s t : HS} {v : SV} {es : Nat} {L : List Value} (h : HoldA A s v es L) (hc : s.c ≤ t.c) (hk : ∀ b, b < s.c → A b → t.h.get b = s.h.get b) : HoldA A t v es L := by
  refine ⟨h.len, ?_⟩
  rcases h.at' with h | ⟨b, off, es', ti, ro, C, h1, h0, h2, h3, h4, h5⟩
  · exact .inl h
  · exact .inr ⟨b, off, es', ti, ro, C, h1, h0, by rw [hk b h3 h0]; exact h2, by omega, h4, h5⟩
theorem HoldA.grow {A : Nat → Prop} {s t : HS} {v : SV} {es : Nat} {L : List Value} (h : HoldA A s v es L) (g : Grow s t) : HoldA A t v es L := h.keep g.c fun b hb _ => g.keep b hb
theorem HoldA.upd {A : Nat → Prop} {s : HS} {v : SV} {es : Nat} {L : List Value} (h : HoldA A s v es L) {b : Nat} (hb : ¬ A b) (o : AObj) : HoldA A (upd s b o) v es L :=
  h.keep (Nat.le_refl _) fun b' _ hA => by rw [upd_get, if_neg (fun e => hb (by rw [← e]; exact hA))]
theorem HoldA.push {A : Nat → Prop} {s : HS} {v : SV} {es : Nat} {L : List Value} (h : HoldA A s v es L) (o : AObj) : HoldA A (push s o) v es L := h.grow (Grow.push s o)
theorem Own.holdA {lo : Nat} {s : HS} {v : SV} {es : Nat} {L : List Value} (h : Own lo s v es L) : HoldA (lo ≤ ·) s v es L := by
  refine ⟨h.len, ?_⟩
  rcases h.at' with ⟨_, h2⟩ | ⟨b, h1, h2, h3, h4, h5⟩
  · exact .inl h2
  · exact .inr ⟨b, 0, es, false, false, L, h1, h2, h4, h3, by rw [h.len]; omega, by rw [List.drop_zero, ← h.len, List.take_length], .inr rfl⟩
theorem Own.upd {lo : Nat} {s : HS} {v : SV} {es : Nat} {L : List Value} (h : Own lo s v es L) {b : Nat} (hb : b < lo) (o : AObj) : Own lo (upd s b o) v es L := by
  refine ⟨h.len, h.cap, ?_⟩
  rcases h.at' with h1 | ⟨b', h1, h2, h3, h4, h5⟩
  · exact .inl h1
  · exact .inr ⟨b', h1, h2, h3, by rw [upd_get, if_neg (by omega)]; exact h4, h5⟩

/-! ### Within an open order -/

noncomputable def noLog (s : HS) : HS := { h := s.h, c := s.c, log := [] }
noncomputable def addLog (s1 s : HS) : HS := { h := s1.h, c := s1.c, log := appL s1.log s.log }
theorem Grow.wrap {s s1 : HS} (g : Grow (noLog s) s1) : Grow s (addLog s1 s) ∧ ∀ b ∈ s1.log, s.c ≤ b := by
  obtain ⟨l, h1, h2⟩ := g.log
  have e : s1.log = l := by rw [h1]; exact List.append_nil l
  exact ⟨⟨g.c, g.keep, s1.log, appL_eq _ _, by rw [e]; exact h2⟩, by rw [e]; exact h2⟩
theorem Hold.noLog {s : HS} {v : SV} {es : Nat} {L : List Value} (h : Hold s v es L) : Hold (noLog s) v es L := ⟨h.len, h.at'⟩
theorem Hold.addLog {s s1 : HS} {v : SV} {es : Nat} {L : List Value} (h : Hold s1 v es L) : Hold (addLog s1 s) v es L := ⟨h.len, h.at'⟩
theorem HoldA.noLog {A : Nat → Prop} {s : HS} {v : SV} {es : Nat} {L : List Value} (h : HoldA A s v es L) : HoldA A (noLog s) v es L := ⟨h.len, h.at'⟩
theorem HoldA.addLog {A : Nat → Prop} {s s1 : HS} {v : SV} {es : Nat} {L : List Value} (h : HoldA A s1 v es L) : HoldA A (addLog s1 s) v es L := ⟨h.len, h.at'⟩

section
variable {R : Type} {s : HS} {Q : R → HS → Prop} {env : Env} {lf : Nat} {tbl : Tbl}

theorem WP.callW {d f n : Nat} {args : List Value} {sh : S3} {P : sh.Sem → HS → Prop} {k : (Nat × List Nat) → sh.Sem → List Nat → Tr R} (h : Runs env lf tbl d f args sh (noLog s) P) (hn : d ≤ n)
    (h' : ∀ x s1, P x s1 → WP (k (s.c, s.log) x s1.log) (addLog s1 s) Q) : WP (.op begW fun q => .op (ty3 sh (callT env lf tbl n (.fn f) args)) fun x => .op (endW q.2) (k q x)) s Q := by
  refine WP.op (m := begW) (b := (s.c, s.log)) (s1 := noLog s) rfl ?_
  refine WP.call h hn fun x s1 hx => ?_
  exact WP.op (m := endW s.log) (b := s1.log) (s1 := addLog s1 s) rfl (h' x s1 hx)
theorem WP.skipW {k : (Nat × List Nat) → List Nat → Tr R} (h' : WP (k (s.c, s.log) []) s Q) : WP (.op begW fun q => .op (endW q.2) (k q)) s Q := by
  refine WP.op (m := begW) (b := (s.c, s.log)) (s1 := noLog s) rfl ?_
  exact WP.op (m := endW s.log) (b := []) (s1 := s) rfl h'
theorem WP.stW {b off es : Nat} {ti : Bool} {L l : List Value} {k : (Nat × List Nat) → Unit → List Nat → Tr R} (hg : s.h.get b = some (bx es ti false L)) (hl : allCells l = true) (hb : off + l.length ≤ L.length)
    (h : WP (k (s.c, s.log) () [b]) (upd s b (bx es ti false (splice L off l))) Q) : WP (.op begW fun q => .op (stM l (some ⟨b, off, none⟩)) fun u => .op (endW q.2) (k q u)) s Q := by
  refine WP.op (m := begW) (b := (s.c, s.log)) (s1 := noLog s) rfl ?_
  refine WP.st (s := noLog s) hg hl hb ?_
  exact WP.op (m := endW s.log) (b := [b]) (s1 := upd s b (bx es ti false (splice L off l))) rfl h
end

theorem memN_false {b : Nat} {l : List Nat} (h : b ∉ l) : memN b l = false := by
  cases e : memN b l with
  | false => rfl
  | true => exact absurd ((memN_iff b l).1 e) h
theorem clrP_cons (m : Nat) (p : Option Addr) (i c : Nat) (seg : List Nat) (l : Recs) : clrP m p ((i, c, seg) :: l) = (match bit m i with
    | true => clrP m p l
    | false => match p with
      | none => clrP m p l
      | some a => match Nat.blt a.block c with
        | true => match memN a.block seg with
          | true => false
          | false => clrP m p l
        | false => false) := rfl
theorem clrP_ok {m : Nat} {p : Option Addr} : ∀ (recs : Recs), (∀ r ∈ recs, bit m r.1 = true ∨ ∀ a, p = some a → a.block < r.2.1 ∧ a.block ∉ r.2.2) → clrP m p recs = true := by
  intro recs
  induction recs with
  | nil => intro _; rfl
  | cons r l ih =>
    obtain ⟨i, c, seg⟩ := r
    intro h
    have ih := ih fun r hr => h r (List.mem_cons_of_mem _ hr)
    rw [clrP_cons]
    cases hb : bit m i with
    | true => exact ih
    | false =>
      cases p with
      | none => exact ih
      | some a =>
        rcases h _ List.mem_cons_self with h1 | h1
        · rw [hb] at h1; cases h1
        · obtain ⟨h2, h3⟩ := h1 a rfl
          simp only [nblt, decide_eq_true h2, memN_false h3]
          exact ih

/-! ### Parts of slices -/

theorem boundV_int (i most d : Nat) (k : IntKind) (h : i ≤ most) : boundV (some (.int k (i : Int))) d most = some i := by
  show (match Nat.ble i most with
    | true => some i
    | false => none) = some i
  rw [nble, decide_eq_true h]
theorem bounds_of (len cap l h : Nat) (lo hi : Option Value) (h1 : boundV hi len cap = some h) (h2 : boundV lo 0 h = some l) : bounds len cap lo hi none = some (l, h, cap) := by
  unfold bounds
  show (match boundV hi len cap with
    | none => none
    | some h => match boundV lo 0 h with
      | none => none
      | some l => some (l, h, cap)) = _
  rw [h1]
  show (match boundV lo 0 h with
      | none => none
      | some l => some (l, h, cap)) = _
  rw [h2]
theorem sliceRes_run (es : Nat) (a : Addr) (l h m : Nat) (s : HS) : sliceRes es a (some (l, h, m)) s = some (.slice (some (addA a (l * es))) (h - l) (m - l), s) := by
  show force l (fun l => force (Nat.sub h l) fun n => force (Nat.sub m l) fun c => ret (.slice (some (addA a (Nat.mul l es))) n c)) s = _
  rw [force_eq, force_eq, force_eq]; rfl
/-- A part of a slice. -/
theorem slS_run {s : HS} {v : SV} {es l h b off es' : Nat} {ti ro : Bool} {C : List Value} {lo hi : Option Value} (h1 : v.a = some ⟨b, off, none⟩) (h2 : s.h.get b = some (bx es' ti ro C)) (ht : ti = true ∨ es = es')
    (hh : boundV hi v.n v.c = some h) (hl : boundV lo 0 h = some l) : slS es v lo hi none s = some (⟨some ⟨b, off + l * es, none⟩, h - l, v.c - l⟩, s) := by
  unfold slS
  rw [h1]
  show M.bind (M.bind (getObj b) (sliceS es ⟨b, off, none⟩ (bounds v.n v.c lo hi none))) svK s = _
  rw [bounds_of v.n v.c l h lo hi hh hl]
  have hget : getObj b s = some (bx es' ti ro C, s) := by unfold getObj; rw [h2]; rfl
  have hs : sliceS es ⟨b, off, none⟩ (some (l, h, v.c)) (bx es' ti ro C) s = some (.slice (some (addA ⟨b, off, none⟩ (l * es))) (h - l) (v.c - l), s) := by
    show (match ti with
      | true => sliceRes es ⟨b, off, none⟩ (some (l, h, v.c))
      | false => match Nat.beq es es' with
        | true => sliceRes es ⟨b, off, none⟩ (some (l, h, v.c))
        | false => M.fail) s = _
    cases ti with
    | true => exact sliceRes_run _ _ _ _ _ _
    | false =>
      rcases ht with ht | ht
      · cases ht
      · subst ht
        rw [T.nbeq, decide_eq_true rfl]
        exact sliceRes_run _ _ _ _ _ _
  rw [bind_assoc', bind_run hget, bind_run hs]; rfl

/-- Appending nothing. -/
theorem apM_zero (es bytes cp : Nat) (v : SV) (p : Option Addr) (s : HS) (hsz : v.n * (bytes + 1) ≤ 1000000) : apM es bytes (.slice v.a v.n v.c) (.slice p 0 cp) s = some (v, s) := by
  have hf : firstN es 0 (.slice p 0 cp) s = some ([], s) := by cases p <;> rfl
  show M.bind (M.bind (firstN es 0 (.slice p 0 cp)) fun new => appendN es bytes 0 new (.slice v.a v.n v.c)) svK s = _
  rw [bind_assoc', bind_run hf]
  have : appendN es bytes 0 [] (.slice v.a v.n v.c) s = some (.slice v.a v.n v.c, s) := by
    show (match Nat.ble (Nat.mul (Nat.add v.n 0) (Nat.add bytes 1)) 1000000 with
      | true => match allCells [] with
        | true => match Nat.beq (lenL ([] : List Value)) (Nat.mul 0 es) with
          | true => match Nat.beq 0 0 with
            | true => ret (.slice v.a v.n v.c)
            | false => appendK es 0 [] v.a v.n v.c
          | false => M.fail
        | false => M.fail
      | false => M.fail) s = _
    rw [nble, decide_eq_true (show Nat.mul (Nat.add v.n 0) (Nat.add bytes 1) ≤ 1000000 from hsz), T.nbeq, decide_eq_true (show lenL ([] : List Value) = Nat.mul 0 es from (Nat.zero_mul es).symm)]
    rfl
  rw [bind_run this]; rfl

/-- Appending a list's cells to nil. -/
theorem WP.appNil {R : Type} {s : HS} {Q : R → HS → Prop} {A : Nat → Prop} {es bytes : Nat} {y : SV} {L : List Value} {k : SV → Tr R} (hy : HoldA A s y es L) (hes : 0 < es) (hcell : allCells L = true) (hsz : y.n * (bytes + 1) ≤ 1000000)
    (h' : ∀ v' s', v'.n = y.n → Own s.c s' v' es L → Grow s s' → WP (k v') s' Q) : WP (.op (apM es bytes (.slice none 0 0) (.slice y.a y.n y.c)) k) s Q := by
  by_cases hn : y.n = 0
  · have hL : L = [] := by have := hy.len; rw [hn, Nat.zero_mul] at this; exact List.eq_nil_of_length_eq_zero this
    refine WP.op (b := ⟨none, 0, 0⟩) (s1 := s) ?_ (h' _ _ hn.symm (by rw [hL]; exact Own.nil _ _ _) (Grow.refl s))
    rw [hn]; exact apM_zero es bytes y.c ⟨none, 0, 0⟩ y.a s (by simp)
  · rcases hy.at' with h | ⟨b, off, es', ti, ro, C, h1, _, h2, h3, h4, h5, _⟩
    · exact absurd h hn
    · obtain ⟨s', e1, e2, e3, e4, e5⟩ := apM_own (bytes := bytes) (Own.nil s.c s es) (n := y.n) (off := off) (Nat.le_refl _) (by omega) h2 h5 h4 hes hcell (by show (0 + y.n) * _ ≤ _; rw [Nat.zero_add]; exact hsz) y.c
      rw [h1]
      exact WP.op e1 (h' _ _ (Nat.zero_add _) e2 (e5 s (Nat.le_refl _) (Grow.refl s)))

/-- The rest of a slice. -/
theorem WP.part {R : Type} {s : HS} {Q : R → HS → Prop} {A : Nat → Prop} {es l : Nat} {v : SV} {L : List Value} {k : SV → Tr R} (h : HoldA A s v es L) (hl : l ≤ v.n) (hn : v.n ≠ 0)
    (h' : ∀ v', v'.n = v.n - l → HoldA A s v' es (L.drop (l * es)) → WP (k v') s Q) : WP (.op (slS es v (some (.int .i64 (l : Int))) none none) k) s Q := by
  rcases h.at' with h0 | ⟨b, off, es', ti, ro, C, e1, e2, e3, e4, e5, e6, e7⟩
  · exact absurd h0 hn
  · refine WP.op (slS_run e1 e3 e7 rfl (boundV_int l v.n 0 .i64 hl)) (h' _ rfl ⟨?_, .inr ⟨b, off + l * es, es', ti, ro, C, rfl, e2, e3, e4, ?_, ?_, e7⟩⟩)
    · show (L.drop (l * es)).length = (v.n - l) * es
      rw [List.length_drop, h.len, Nat.sub_mul]
    · show off + l * es + (v.n - l) * es ≤ C.length
      have : l * es + (v.n - l) * es = v.n * es := by rw [← Nat.add_mul]; congr 1; omega
      omega
    · show (C.drop (off + l * es)).take ((v.n - l) * es) = _
      rw [← e6, List.drop_take, List.drop_drop, Nat.sub_mul]
end Go.Ax

/- A function of the library's that turns a row of integers, as a contract.
Conditions: none. -/
namespace Go.Ax
set_option linter.unusedSimpArgs false
set_option linter.unusedSectionVars false
set_option linter.unusedVariables false

section
variable {env : Env} {lf : Nat} {tbl : Tbl} {s : HS}

theorem Runs.row {f lo : Nat} {o : RowOp} {v : SV} {zs : List Int} (ht : ∀ a, tbl f [.slice (some a) v.n v.c] = some (.row o)) (hg : (o.g zs).length = zs.length) (h : Own lo s v 1 (zs.map (Value.int .i64))) (hz : zs ≠ []) (hlen : zs.length ≤ 1000000)
    (sh : S3) (x : sh.Sem) (hx : ∀ a, v.a = some a → sh.mk x = rowRes o a zs v.c) :
    Runs env lf tbl 1 f [.slice v.a v.n v.c] sh s fun y s' => y = x ∧ Own lo s' v 1 ((o.g zs).map (Value.int .i64)) ∧ ∃ b, lo ≤ b ∧ b < s.c ∧ s' = upd s b (bx 1 false false ((o.g zs).map (Value.int .i64))) := by
  intro n hn
  obtain ⟨m, rfl⟩ : ∃ m, n = m + 1 := ⟨n - 1, by omega⟩
  have hl := h.len
  rw [List.length_map, Nat.mul_one] at hl
  have hpos : 0 < zs.length := by
    cases zs with
    | nil => exact absurd rfl hz
    | cons z zs => simp
  rcases h.at' with ⟨_, h2⟩ | ⟨b, h1, h2, h3, h4, h5⟩
  · omega
  · refine ⟨x, upd s b (bx 1 false false ((o.g zs).map (Value.int .i64))), ?_, rfl, ⟨by rw [List.length_map, hg, hl, Nat.mul_one], h.cap, .inr ⟨b, h1, h2, h3, by rw [upd_get, if_pos rfl], h5⟩⟩, b, h2, h3, rfl⟩
    rw [hx _ h1]
    show orCall [.slice v.a v.n v.c] (tbl f [.slice v.a v.n v.c]) _ s = _
    rw [h1, ht]
    show (match (none : Option Nat), Nat.ble 1 v.n, Nat.ble v.n 1000000 with
      | none, true, true => M.bind (getObj b) (rowB o b 0 v.n v.c)
      | _, _, _ => M.fail) s = _
    rw [nble, nble, decide_eq_true (by omega), decide_eq_true (by omega)]
    refine bind_of (a := bx 1 false false (zs.map (Value.int .i64))) (s1 := s) ?_ ?_
    · show getR (s.h.get b) s = _
      rw [h4]; rfl
    · have hrd : (T.ofList (zs.map (Value.int .i64))).read v.n 0 = some (zs.map (Value.int .i64)) := by
        rw [T.read_ofList _ _ _ (by rw [List.length_map]; omega), List.drop_zero, List.take_of_length_le (by rw [List.length_map]; omega)]
      have hio : ∀ l : List Int, intsOf (l.map (Value.int .i64)) = some l := by
        intro l
        induction l with
        | nil => rfl
        | cons z l ih => show (match intsOf (l.map (Value.int .i64)) with | some zs => some (z :: zs) | none => none) = _; rw [ih]
      show (match Nat.beq 1 1, Nat.ble (Nat.add 0 v.n) (zs.map (Value.int .i64)).length with
        | true, true => M.withO ((T.ofList (zs.map (Value.int .i64))).read v.n 0) fun vs => M.withO (intsOf vs) fun zs' => M.bind (setObj b (.cells (zs.map (Value.int .i64)).length 1 false false (T.write ((o.g zs').map (Value.int .i64)) (T.ofList (zs.map (Value.int .i64))) 0))) fun _ => ret (rowRes o ⟨b, 0, none⟩ zs' v.c)
        | _, _ => M.fail) s = _
      rw [nble, decide_eq_true (show Nat.add 0 v.n ≤ _ by rw [List.length_map]; show 0 + v.n ≤ _; omega), hrd]
      show M.withO (intsOf (zs.map (Value.int .i64))) _ s = _
      rw [hio]
      show (M.bind (setObj b (.cells (zs.map (Value.int .i64)).length 1 false false (T.write ((o.g zs).map (Value.int .i64)) (T.ofList (zs.map (Value.int .i64))) 0))) fun _ => ret (rowRes o ⟨b, 0, none⟩ zs v.c)) s = _
      refine bind_of (a := ()) (s1 := upd s b (bx 1 false false ((o.g zs).map (Value.int .i64)))) ?_ rfl
      unfold setObj
      rw [h4, T.write_ofList _ _ _ (by rw [List.length_map, List.length_map, hg]; omega), splice_all (by rw [List.length_map, List.length_map, hg])]
      show some ((), _) = _
      rw [show (zs.map (Value.int .i64)).length = ((o.g zs).map (Value.int .i64)).length by rw [List.length_map, List.length_map, hg]]
      rfl
end
end Go.Ax
