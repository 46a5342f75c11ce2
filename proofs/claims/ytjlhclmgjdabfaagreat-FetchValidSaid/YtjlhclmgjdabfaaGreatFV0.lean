/- A member's cells.
Conditions: none. -/
import Derived.Test.YtjlhclmgjdabfaaGreatW16
namespace Go.Proofs.YtjlhclmgjdabfaaGreat
set_option linter.unusedVariables false
set_option linter.unusedSimpArgs false
set_option linter.unusedSectionVars false
open Go Go.Ax
/-- A member's cells. -/
def memC (m : Int × Int × Bool) : List Value := [.int .i64 m.1, .int .i64 m.2.1, .bool m.2.2]
end Go.Proofs.YtjlhclmgjdabfaaGreat
