/- FetchLocks: the closed facts of the row, one by one.
Conditions: none. -/
import Derived.JoinedOf
import Derived.Test.YtjlhclmgjdabfaaGreatW16b
namespace Go.Proofs.YtjlhclmgjdabfaaGreat
set_option linter.unusedVariables false
set_option linter.unusedSimpArgs false
set_option linter.unusedSectionVars false
open Go Go.Ax
set_option maxRecDepth 100000
set_option maxHeartbeats 0 in
theorem flFacts : joinedFacts Tryz.prog 6 Tryz.f6 Rows.fetchLocksSpec Rows.fetchLocksRow = true := by
  unfold joinedFacts
  simp only [Bool.and_eq_true]
  repeat' apply And.intro
  all_goals (as_aux_lemma => kernel_rfl)
end Go.Proofs.YtjlhclmgjdabfaaGreat
