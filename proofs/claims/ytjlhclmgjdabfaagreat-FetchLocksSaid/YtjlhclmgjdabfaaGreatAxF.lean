/- The abstract executor: types whose values are compared cell by cell.
Conditions: none. -/
import Derived.Test.YtjlhclmgjdabfaaGreatAxE
namespace Go.Ax
set_option linter.unusedVariables false
set_option linter.unusedSimpArgs false
set_option linter.unusedSectionVars false

def flatFs (P : Program) (f : TypeId → Option (List Value)) : List Field → Nat → Option (List Value)
  | [], _ => some []
  | x :: fs, off => match f x.type with
    | none => none
    | some z => if x.name ≠ "_" ∧ x.offset = off ∧ (P.info? x.type).map (·.size) = some z.length then (match flatFs P f fs (off + z.length) with
        | none => none
        | some zs => some (z ++ zs)) else none

def flatZ (P : Program) : Nat → TypeId → Option (List Value)
  | 0, _ => none
  | d + 1, t => match P.underlying t with
    | some (.int k) => some [.int k 0]
    | some .bool => some [.bool false]
    | some (.array n e) => match flatZ P d e with
      | some z => if (P.info? e).map (·.size) = some z.length then some ((List.replicate n z).flatten) else none
      | none => none
    | some (.struct fs) => if P.stoodInHeld t then none else flatFs P (flatZ P d) fs.toList 0
    | _ => none

theorem cellsEq_nil {l m : List Value} {b : Bool} (h : cellsEq [] l m = some b) : l = [] ∧ m = [] ∧ b = true := by
  unfold cellsEq at h
  cases l with
  | nil => cases m with
    | nil => injection h with h; exact ⟨rfl, rfl, h.symm⟩
    | cons => cases h
  | cons => cases h

theorem cellsEq_cons {z : Value} {zs l m : List Value} {b : Bool} (h : cellsEq (z :: zs) l m = some b) : ∃ x l' y m' b1 b2, l = x :: l' ∧ m = y :: m' ∧ cellEq z x y = some b1 ∧ cellsEq zs l' m' = some b2 ∧ b = (b1 && b2) := by
  unfold cellsEq at h
  cases l with
  | nil => cases h
  | cons x l => cases m with
    | nil => cases h
    | cons y m =>
      simp only at h
      cases h1 : cellEq z x y with
      | none => rw [h1] at h; cases h
      | some b1 =>
        rw [h1] at h
        cases h2 : cellsEq zs l m with
        | none => rw [h2] at h; cases h
        | some b2 => rw [h2] at h; injection h with h; exact ⟨x, l, y, m, b1, b2, rfl, rfl, h1, h2, h.symm⟩

theorem cellsEq_length : ∀ {z l m : List Value} {b : Bool}, cellsEq z l m = some b → l.length = z.length ∧ m.length = z.length
  | [], l, m, b, h => by obtain ⟨e1, e2, _⟩ := cellsEq_nil h; subst e1; subst e2; exact ⟨rfl, rfl⟩
  | z :: zs, l, m, b, h => by
    obtain ⟨x, l', y, m', b1, b2, e1, e2, _, h2, _⟩ := cellsEq_cons h
    subst e1; subst e2
    have := cellsEq_length h2
    simp [this]

theorem cellsEq_append : ∀ {z1 z2 l m : List Value} {b : Bool}, cellsEq (z1 ++ z2) l m = some b → ∃ l1 l2 m1 m2 b1 b2, l = l1 ++ l2 ∧ m = m1 ++ m2 ∧ cellsEq z1 l1 m1 = some b1 ∧ cellsEq z2 l2 m2 = some b2 ∧ b = (b1 && b2)
  | [], z2, l, m, b, h => ⟨[], l, [], m, true, b, rfl, rfl, rfl, h, by simp⟩
  | z :: z1, z2, l, m, b, h => by
    obtain ⟨x, l', y, m', b1, b2, e1, e2, h1, h2, e3⟩ := cellsEq_cons (show cellsEq (z :: (z1 ++ z2)) l m = some b from h)
    obtain ⟨l1, l2, m1, m2, c1, c2, f1, f2, f3, f4, f5⟩ := cellsEq_append h2
    refine ⟨x :: l1, l2, y :: m1, m2, b1 && c1, c2, by rw [e1, f1]; rfl, by rw [e2, f2]; rfl, ?_, f4, by rw [e3, f5, Bool.and_assoc]⟩
    unfold cellsEq
    simp only [h1, f3]; rfl

/-- A value of a type, out of its cells. -/
def ValOf (P : Program) (t : TypeId) (cs : List Value) (v : Value) : Prop := ∃ d, P.underlying t = some d ∧ ((isAggD d = true ∧ v = .agg ⟨cs⟩) ∨ (isAggD d = false ∧ cs = [v]))

section
variable {P : Program}

theorem run_part_of {t : TypeId} {d : TypeDesc} (hd : P.underlying t = some d) {pre cs post : List Value} {n : Nat} (hn : (P.info? t).map (·.size) = some n) (hl : cs.length = n) (hs : isAggD d = false → ∃ v, cs = [v]) {off : Nat} (ho : off = pre.length) (w : World) :
    ∃ v, (part t ⟨pre ++ (cs ++ post)⟩ off).run P w = .ok v w ∧ ValOf P t cs v := by
  subst ho
  have hu : (isAgg t).run P w = .ok (isAggD d) w := by
    unfold isAgg
    rw [Sem.run_bind, run_underlying hd]
    exact run_isAggD d w
  unfold part
  rw [Sem.run_bind, hu]
  simp only [Result.andThen_ok]
  cases ha : isAggD d with
  | true =>
    simp only [if_true]
    have hsz : (sizeOf t).run P w = .ok n w := by
      cases hi : P.info? t with
      | none => rw [hi] at hn; cases hn
      | some i =>
        rw [hi] at hn; injection hn with hn
        rw [← hn]
        unfold sizeOf typeInfo
        rw [Sem.run_bind, Sem.run_bind]
        show Result.andThen (Sem.run P (match P.info? t with | some i => Pure.pure i | none => stuck "no such type") w) _ = _
        rw [hi]; rfl
    rw [Sem.run_bind, hsz]
    refine ⟨_, rfl, d, hd, .inl ⟨ha, ?_⟩⟩
    congr 1
    apply Array.ext'
    simp [← hl]
  | false =>
    simp only [Bool.false_eq_true, if_false]
    obtain ⟨v, e⟩ := hs ha
    subst e
    refine ⟨v, ?_, d, hd, .inr ⟨ha, rfl⟩⟩
    simp

theorem cellEq_scalar {k : IntKind} {x y : Value} {b : Bool} (h : cellEq (.int k 0) x y = some b) : ∃ m n, x = .int k m ∧ y = .int k n ∧ b = (m == n) := by
  unfold cellEq at h
  split at h
  · rename_i j j' k1 m k2 n he
    injection he with e1 e2
    subst e1
    cases h1 : nEq k k1 with
    | false => rw [h1] at h; cases h
    | true =>
      rw [h1] at h
      cases h2 : nEq k1 k2 with
      | false => rw [h2] at h; cases h
      | true =>
        rw [h2] at h
        injection h with h
        have e1 := (nEq_iff _ _).1 h1
        have e2 := (nEq_iff _ _).1 h2
        subst e1; subst e2
        refine ⟨m, n, rfl, rfl, ?_⟩
        rw [← h, iEq_eq]
        by_cases e : m = n
        · simp [e]
        · simp [e]
  · rename_i he; cases he
  · cases h

theorem cellEq_bool {x y : Value} {b : Bool} (h : cellEq (.bool false) x y = some b) : ∃ m n, x = .bool m ∧ y = .bool n ∧ b = (m == n) := by
  unfold cellEq at h
  split at h
  · rename_i he; cases he
  · rename_i m n _; injection h with h; exact ⟨m, n, rfl, rfl, h.symm⟩
  · cases h

theorem flatZ_scalar {d : Nat} {t : TypeId} {z : List Value} (h : flatZ P d t = some z) : ∃ D, P.underlying t = some D ∧ (isAggD D = false → z.length = 1) := by
  cases d with
  | zero => cases h
  | succ d =>
    unfold flatZ at h
    split at h
    · rename_i k hu; injection h with h; subst h; exact ⟨_, hu, fun _ => rfl⟩
    · rename_i hu; injection h with h; subst h; exact ⟨_, hu, fun _ => rfl⟩
    · rename_i n e hu; exact ⟨_, hu, fun h => by cases h⟩
    · rename_i fs hu; exact ⟨_, hu, fun h => by cases h⟩
    · cases h

/-- What the cell-by-cell answer is worth, for one type. -/
def FlatAt (P : Program) (D : Nat) (t : TypeId) (z : List Value) : Prop :=
  ∀ xs ys b v u (w : World), cellsEq z xs ys = some b → ValOf P t xs v → ValOf P t ys u → (Op.equalIn D t v u).run P w = .ok b w

theorem ValOf.scalar {t : TypeId} {d : TypeDesc} (hd : P.underlying t = some d) (ha : isAggD d = false) {x : Value} {v : Value} (h : ValOf P t [x] v) : v = x := by
  obtain ⟨d', h1, h2⟩ := h
  rw [hd] at h1; injection h1 with h1; subst h1
  rcases h2 with ⟨h2, _⟩ | ⟨_, h2⟩
  · rw [ha] at h2; cases h2
  · injection h2 with h2; exact h2.symm
theorem ValOf.agg {t : TypeId} {d : TypeDesc} (hd : P.underlying t = some d) (ha : isAggD d = true) {xs : List Value} {v : Value} (h : ValOf P t xs v) : v = .agg ⟨xs⟩ := by
  obtain ⟨d', h1, h2⟩ := h
  rw [hd] at h1; injection h1 with h1; subst h1
  rcases h2 with ⟨_, h2⟩ | ⟨h2, _⟩
  · exact h2
  · rw [ha] at h2; cases h2

theorem one_of {l : List Value} (h : l.length = 1) : ∃ v, l = [v] := by
  match l, h with
  | [v], _ => exact ⟨v, rfl⟩

theorem eqFields_flat {D : Nat} {f : TypeId → Option (List Value)} (hf : ∀ t z, f t = some z → FlatAt P D t z ∧ ∃ d, P.underlying t = some d ∧ (isAggD d = false → z.length = 1)) :
    ∀ (fs : List Field) (off : Nat) (z : List Value), flatFs P f fs off = some z → ∀ (px xs py ys : List Value) (b : Bool) (w : World), px.length = off → py.length = off → cellsEq z xs ys = some b →
      (Op.eqFields D ⟨px ++ xs⟩ ⟨py ++ ys⟩ fs).run P w = .ok b w
  | [], off, z, h, px, xs, py, ys, b, w, _, _, hc => by
    injection h with h; subst h
    obtain ⟨_, _, e⟩ := cellsEq_nil hc
    subst e; rfl
  | x :: fs, off, z, h, px, xs, py, ys, b, w, hpx, hpy, hc => by
    unfold flatFs at h
    cases hx : f x.type with
    | none => rw [hx] at h; cases h
    | some z1 =>
      rw [hx] at h
      simp only at h
      split at h
      · rename_i hcond
        obtain ⟨c1, c2, c3⟩ := hcond
        cases hr : flatFs P f fs (off + z1.length) with
        | none => rw [hr] at h; cases h
        | some z2 =>
          rw [hr] at h
          injection h with h; subst h
          obtain ⟨l1, l2, m1, m2, b1, b2, e1, e2, h1, h2, e3⟩ := cellsEq_append hc
          subst e1; subst e2; subst e3
          obtain ⟨hfl, d, hd, hs⟩ := hf _ _ hx
          obtain ⟨k1, k2⟩ := cellsEq_length h1
          obtain ⟨v, p1, p2⟩ := run_part_of (P := P) hd (pre := px) (cs := l1) (post := l2) c3 k1 (fun ha => one_of (by rw [k1]; exact hs ha)) (off := x.offset) (by rw [c2, hpx]) w
          obtain ⟨u, q1, q2⟩ := run_part_of (P := P) hd (pre := py) (cs := m1) (post := m2) c3 k2 (fun ha => one_of (by rw [k2]; exact hs ha)) (off := x.offset) (by rw [c2, hpy]) w
          have he := hfl l1 m1 b1 v u w h1 p2 q2
          have ih := eqFields_flat hf fs _ z2 hr (px ++ l1) l2 (py ++ m1) m2 b2 w (by simp [hpx, k1]) (by simp [hpy, k2]) h2
          rw [List.append_assoc, List.append_assoc] at ih
          unfold Op.eqFields
          rw [if_pos c1, Sem.run_bind, p1]
          simp only [Result.andThen_ok]
          rw [Sem.run_bind, q1]
          simp only [Result.andThen_ok]
          rw [Sem.run_bind, he]
          simp only [Result.andThen_ok]
          cases b1 with
          | false => rfl
          | true => simpa using ih
      · cases h

theorem eqItems_flat {D : Nat} {e : TypeId} {z : List Value} (hf : FlatAt P D e z) {d : TypeDesc} (hd : P.underlying e = some d) (hs : isAggD d = false → z.length = 1) (hn : (P.info? e).map (·.size) = some z.length) :
    ∀ (n k : Nat) (px xs py ys : List Value) (b : Bool) (w : World), px.length = k * z.length → py.length = k * z.length → cellsEq (List.replicate n z).flatten xs ys = some b →
      (Op.eqItems D e z.length ⟨px ++ xs⟩ ⟨py ++ ys⟩ (List.range' k n)).run P w = .ok b w
  | 0, k, px, xs, py, ys, b, w, _, _, hc => by
    obtain ⟨_, _, e⟩ := cellsEq_nil hc
    subst e; rfl
  | n + 1, k, px, xs, py, ys, b, w, hpx, hpy, hc => by
    rw [List.replicate_succ, List.flatten_cons] at hc
    obtain ⟨l1, l2, m1, m2, b1, b2, e1, e2, h1, h2, e3⟩ := cellsEq_append hc
    subst e1; subst e2; subst e3
    obtain ⟨k1, k2⟩ := cellsEq_length h1
    obtain ⟨v, p1, p2⟩ := run_part_of (P := P) hd (pre := px) (cs := l1) (post := l2) hn k1 (fun ha => one_of (by rw [k1]; exact hs ha)) (off := k * z.length) hpx.symm w
    obtain ⟨u, q1, q2⟩ := run_part_of (P := P) hd (pre := py) (cs := m1) (post := m2) hn k2 (fun ha => one_of (by rw [k2]; exact hs ha)) (off := k * z.length) hpy.symm w
    have he := hf l1 m1 b1 v u w h1 p2 q2
    have ih := eqItems_flat hf hd hs hn n (k + 1) (px ++ l1) l2 (py ++ m1) m2 b2 w (by simp [hpx, k1, Nat.add_mul]) (by simp [hpy, k2, Nat.add_mul]) h2
    rw [List.append_assoc, List.append_assoc] at ih
    rw [List.range'_succ]
    unfold Op.eqItems
    rw [Sem.run_bind, p1]
    simp only [Result.andThen_ok]
    rw [Sem.run_bind, q1]
    simp only [Result.andThen_ok]
    rw [Sem.run_bind, he]
    simp only [Result.andThen_ok]
    cases b1 with
    | false => rfl
    | true => simpa using ih

theorem flatZ_at : ∀ (d D : Nat) (t : TypeId) (z : List Value), d ≤ D → flatZ P d t = some z → FlatAt P D t z
  | 0, D, t, z, _, h => by cases h
  | d + 1, 0, t, z, hD, _ => by omega
  | d + 1, D + 1, t, z, hD, h => by
    intro xs ys b v u w hc hv hu
    unfold flatZ at h
    split at h
    · rename_i k hk
      injection h with h; subst h
      obtain ⟨x, l', y, m', b1, b2, e1, e2, h1, h2, e3⟩ := cellsEq_cons hc
      obtain ⟨e4, e5, e6⟩ := cellsEq_nil h2
      subst e1; subst e2; subst e3; subst e4; subst e5; subst e6
      obtain ⟨m, n, f1, f2, f3⟩ := cellEq_scalar h1
      rw [hv.scalar hk rfl, hu.scalar hk rfl, f1, f2, run_equalIn_int w D t k k m n hk, f3]; simp
    · rename_i hk
      injection h with h; subst h
      obtain ⟨x, l', y, m', b1, b2, e1, e2, h1, h2, e3⟩ := cellsEq_cons hc
      obtain ⟨e4, e5, e6⟩ := cellsEq_nil h2
      subst e1; subst e2; subst e3; subst e4; subst e5; subst e6
      obtain ⟨m, n, f1, f2, f3⟩ := cellEq_bool h1
      rw [hv.scalar hk rfl, hu.scalar hk rfl, f1, f2, run_equalIn_bool' w D t m n hk, f3]; simp
    · rename_i n e hk
      cases hz : flatZ P d e with
      | none => rw [hz] at h; cases h
      | some z1 =>
        rw [hz] at h
        simp only at h
        split at h
        · rename_i hn
          injection h with h; subst h
          obtain ⟨d', hd', hs'⟩ := flatZ_scalar hz
          rw [hv.agg hk rfl, hu.agg hk rfl]
          cases hi : P.info? e with
          | none => rw [hi] at hn; cases hn
          | some i =>
            have hsz : P.cellsOf e = z1.length := by
              rw [hi] at hn; injection hn with hn
              unfold Program.cellsOf
              rw [hi]; simpa using hn
            rw [run_equalIn_array w D ⟨xs⟩ ⟨ys⟩ hk hi, hsz, List.range_eq_range']
            have := eqItems_flat (flatZ_at d D e z1 (by omega) hz) hd' hs' hn n 0 [] xs [] ys b w (by simp) (by simp) hc
            simpa using this
        · cases h
    · rename_i fs hk
      split at h
      · cases h
      · rename_i hst
        have hfs : P.fieldsOf t = fs := by unfold Program.fieldsOf; rw [hk]
        rw [hv.agg hk rfl, hu.agg hk rfl, run_equalIn_struct w D t ⟨xs⟩ ⟨ys⟩ (by rw [hfs]; exact hk) (by simpa using hst), hfs]
        have := eqFields_flat (D := D) (f := flatZ P d) (fun t z hz => ⟨flatZ_at d D t z (by omega) hz, flatZ_scalar hz⟩) fs.toList 0 z h [] xs [] ys b w rfl rfl hc
        simpa using this
    · cases h

/-- A type is compared cell by cell. -/
theorem flatOK_of {t : Nat} {ti : TI} {d : Nat} (hg : P.eqGuardType P.depth t = false) (hd : d ≤ 10000) (hz : flatZ P d t = some ti.zero) (ha : isAggD ti.desc = true) (hu : P.underlying t = some ti.desc) : FlatOK P t ti.zero := by
  refine ⟨hg, fun xs ys b w hc => ?_⟩
  exact flatZ_at d 10000 t ti.zero hd hz xs ys b _ _ w hc ⟨_, hu, .inl ⟨ha, rfl⟩⟩ ⟨_, hu, .inl ⟨ha, rfl⟩⟩
end
end Go.Ax

namespace Go.Ax
theorem tiOf_und {P : Program} {fl : Bool} {t : Nat} {ti : TI} (h : tiOf P fl t = some ti) : P.underlying t = some ti.desc := by
  unfold tiOf at h
  cases hd : P.underlying t with
  | none => rw [hd] at h; cases h
  | some d =>
    rw [hd] at h
    cases hi : P.info? t with
    | none => rw [hi] at h; cases h
    | some i =>
      rw [hi] at h
      cases hz : i.zero with
      | none => simp only [hz] at h; cases h
      | some z => simp only [hz] at h; injection h with h; subst h; rfl

/-- A type is compared cell by cell: three closed facts. -/
theorem flatOK_closed {P : Program} {t d : Nat} (hg : P.eqGuardType P.depth t = false) (hd : d ≤ 10000) (hz : flatZ P d t = (tiOf P true t).map (·.zero)) (ha : (tiOf P true t).map (fun ti => isAggD ti.desc) = some true) (ti : TI) (h : tiOf P true t = some ti) : FlatOK P t ti.zero := by
  rw [h] at hz ha
  injection ha with ha
  exact flatOK_of hg hd hz ha (tiOf_und h)
end Go.Ax
