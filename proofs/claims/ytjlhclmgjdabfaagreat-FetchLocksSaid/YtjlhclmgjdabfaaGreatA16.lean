/- The sanity check of the statements about package fetch returns true; what is known of calls.
Conditions: none. -/
import Derived.Test.YtjlhclmgjdabfaaGreatSR16
namespace Go.Proofs.YtjlhclmgjdabfaaGreat
set_option linter.unusedVariables false
set_option linter.unusedSimpArgs false
set_option linter.unusedSectionVars false
open Go Go.Ax
set_option maxRecDepth 1000000
theorem awake16_run : isTrue (callN env16 100000 200 (.fn 8) [] s0) = true := by kernel_rfl
/-- 'awake' returns true, in every world, with every tape, and turns nothing that was there. -/
theorem awake16 (w : World) : Calls Tryz.prog 8 #[] w fun e w' => e = .returned (.bool true) ∧ Go.RowKit.Below w.heap.size w w' :=
  closed_run env16_ok.1 env16_ok.2 _ _ _ awake16_run w

/-- An answer for a row of integers that is not empty. -/
noncomputable def rowAns (o : RowOp) (args : List Value) : Option Ans := match args with
  | [.slice (some _) l _] => match l with
    | 0 => none
    | _ + 1 => some (.row o)
  | _ => none
theorem rowAns_inv {o : RowOp} {args : List Value} {a : Ans} (h : rowAns o args = some a) : a = .row o := by
  unfold rowAns at h
  split at h
  · split at h
    · cases h
    · injection h with h; exact h.symm
  · cases h

/-- The answers that are known: the sanity check, the sort, what drops what stands twice. -/
noncomputable def tbl16 : Tbl := fun f args => match Nat.beq f 8 with
  | true => match args with
    | [] => some (.val (.bool true))
    | _ :: _ => none
  | false => match Nat.beq f 62 with
    | true => rowAns sortOp args
    | false => match Nat.beq f 63 with
      | true => rowAns compactOp args
      | false => none
theorem tbl16_inv {f : Nat} {args : List Value} {a : Ans} (h : tbl16 f args = some a) : (f = 8 ∧ args = [] ∧ a = .val (.bool true)) ∨ (f = 62 ∧ a = .row sortOp) ∨ (f = 63 ∧ a = .row compactOp) := by
  unfold tbl16 at h
  rw [T.nbeq, T.nbeq, T.nbeq] at h
  by_cases e : f = 8
  · rw [decide_eq_true e] at h
    cases args with
    | nil => injection h with h; exact .inl ⟨e, rfl, h.symm⟩
    | cons x l => cases h
  · rw [decide_eq_false e] at h
    by_cases e2 : f = 62
    · rw [decide_eq_true e2] at h; exact .inr (.inl ⟨e2, rowAns_inv h⟩)
    · rw [decide_eq_false e2] at h
      by_cases e3 : f = 63
      · rw [decide_eq_true e3] at h; exact .inr (.inr ⟨e3, rowAns_inv h⟩)
      · rw [decide_eq_false e3] at h; cases h
theorem fn16_8 : env16.fn.get 8 = some Tryz.f8 := by kernel_rfl
theorem tbl16_val {f : Nat} {args : List Value} {v : Value} (h : tbl16 f args = some (.val v)) : f = 8 ∧ args = [] ∧ v = .bool true := by
  rcases tbl16_inv h with ⟨h1, h2, h3⟩ | ⟨_, h3⟩ | ⟨_, h3⟩
  · injection h3 with h3; exact ⟨h1, h2, h3⟩
  · cases h3
  · cases h3
theorem tbl16_ok : TblOK Tryz.prog tbl16 where
  args f args v h := by obtain ⟨_, e, _⟩ := tbl16_val h; subst e; intro x hx; cases hx
  out f args v h := by obtain ⟨_, _, e⟩ := tbl16_val h; subst e; rfl
  enter f args v h us w := by obtain ⟨e, _, _⟩ := tbl16_val h; subst e; exact (env16_ok.1.fn 8 _ fn16_8).call us w
  calls f args v h w := by
    obtain ⟨e1, e2, e3⟩ := tbl16_val h
    subst e1; subst e2; subst e3
    exact awake16 w
  rows f args o h := by
    rcases tbl16_inv h with ⟨_, _, h3⟩ | ⟨h1, h3⟩ | ⟨h1, h3⟩
    · cases h3
    · injection h3 with h3; subst h1; subst h3; exact sort_ok
    · injection h3 with h3; subst h1; subst h3; exact compact_ok
end Go.Proofs.YtjlhclmgjdabfaaGreat
