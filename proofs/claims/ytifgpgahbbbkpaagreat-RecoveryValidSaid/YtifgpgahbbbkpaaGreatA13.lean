/- The sanity check of the statements about package recovery returns true.
Conditions: none. -/
import Derived.Test.YtifgpgahbbbkpaaGreatEV13
namespace Go.Proofs.YtifgpgahbbbkpaaGreat
set_option linter.unusedVariables false
set_option linter.unusedSimpArgs false
set_option linter.unusedSectionVars false
open Go Go.Ax
set_option maxRecDepth 1000000
theorem awakeD13 : isTrue (callD env13 100000 tab13 200 (.fn 14) [] s0) = true := by kernel_rfl
theorem awake13_run : isTrue (callN env13 100000 200 (.fn 14) [] s0) = true := by
  have h := awakeD13
  have hle := callD_le (tab13_ok 100000 0) 200 (.fn 14) []
  cases hd : callD env13 100000 tab13 200 (.fn 14) [] s0 with
  | none => rw [hd] at h; cases h
  | some q => rw [hd] at h; rw [show callN env13 100000 200 (.fn 14) [] s0 = some q from hle _ _ hd]; exact h
/-- 'awake' returns true, in every world, with every tape, and turns nothing that was there. -/
theorem awake13 (w : World) : Calls Tryz.prog 14 #[] w fun e w' => e = .returned (.bool true) ∧ Go.RowKit.Below w.heap.size w w' :=
  closed_run env13_ok.1 env13_ok.2 _ _ _ awake13_run w

/-- The answers that are known: the sanity check. -/
noncomputable def tbl13 : Tbl := fun f args => match Nat.beq f 14 with
  | true => match args with
    | [] => some (.bool true)
    | _ :: _ => none
  | false => none
theorem tbl13_inv {f : Nat} {args : List Value} {v : Value} (h : tbl13 f args = some v) : f = 14 ∧ args = [] ∧ v = .bool true := by
  unfold tbl13 at h
  rw [T.nbeq] at h
  by_cases e : f = 14
  · rw [decide_eq_true e] at h
    cases args with
    | nil => injection h with h; exact ⟨e, rfl, h.symm⟩
    | cons x l => cases h
  · rw [decide_eq_false e] at h; cases h
theorem fn13_14 : env13.fn.get 14 = some Tryz.f14 := by kernel_rfl
theorem tbl13_ok : TblOK Tryz.prog tbl13 where
  args f args v h := by obtain ⟨_, e, _⟩ := tbl13_inv h; subst e; intro x hx; cases hx
  out f args v h := by obtain ⟨_, _, e⟩ := tbl13_inv h; subst e; rfl
  enter f args v h us w := by obtain ⟨e, _, _⟩ := tbl13_inv h; subst e; exact (env13_ok.1.fn 14 _ fn13_14).call us w
  calls f args v h w := by
    obtain ⟨e1, e2, e3⟩ := tbl13_inv h
    subst e1; subst e2; subst e3
    exact awake13 w
end Go.Proofs.YtifgpgahbbbkpaaGreat
