/- Shapes of the program's types.
Conditions: none. -/
import Derived.Test.YtjlhclmgjdabfaaGreatW16
import Derived.Test.YtjlhclmgjdabfaaGreatAxL
namespace Go.Proofs.YtjlhclmgjdabfaaGreat
set_option linter.unusedVariables false
set_option linter.unusedSimpArgs false
set_option linter.unusedSectionVars false
open Go Go.Ax
/-- The shape of each type. -/
noncomputable def sh16 : Nat → Option S3 := s3Of Tryz.prog
end Go.Proofs.YtjlhclmgjdabfaaGreat
