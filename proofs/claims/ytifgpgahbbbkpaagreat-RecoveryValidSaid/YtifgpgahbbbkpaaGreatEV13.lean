/- The table of shallow code.
Conditions: none. -/
import Derived.Test.YtifgpgahbbbkpaaGreatDW0
import Derived.Test.YtifgpgahbbbkpaaGreatDW1
import Derived.Test.YtifgpgahbbbkpaaGreatDW2
import Derived.Test.YtifgpgahbbbkpaaGreatDW3
import Derived.Test.YtifgpgahbbbkpaaGreatDW4
import Derived.Test.YtifgpgahbbbkpaaGreatDW5
import Derived.Test.YtifgpgahbbbkpaaGreatDW6
namespace Go.Proofs.YtifgpgahbbbkpaaGreat
set_option linter.unusedVariables false
set_option linter.unusedSimpArgs false
set_option linter.unusedSectionVars false
open Go Go.Ax
set_option maxRecDepth 1000000
noncomputable def ents13 : List (Ent env13 sh13) := [e14, e15, e18, e23, e30, e31, e37, e38, e39, e41, e43, e45, e48, e49, e50, e58, e59, e60, e61, e62, e71, e72, e73, e74, e75, e76, e77, e78, e80, e81, e82, e83, e84, e88, e90, e91, e93, e94, e95, e96, e97, e98, e107, e108, e109, e110, e111, e112, e129, e130, e131, e132, e133, e134, e135, e136, e137, e138, e139, e140, e141, e142, e143, e144, e148, e149, e150, e159, e160, e161, e162, e163, e164, e165, e166, e167, e168, e169, e170, e171, e172, e173, e187, e188, e189, e190, e191, e192, e193, e194, e195, e197, e198, e199, e200, e201, e202, e203, e204, e205, e206, e207, e211, e212, e213, e214, e215, e216, e217, e218, e219, e220, e221, e223, e224, e231, e232, e233, e234, e235, e236, e237, e238, e239, e240, e241, e242, e243, e244, e245, e246, e247, e248, e249, e254, e256, e257, e258, e259, e260, e261, e262, e263, e264, e265, e266, e267, e269, e270, e271, e272, e273, e274, e275, e276, e277, e278, e279, e280, e281, e282, e284, e285, e286, e287, e288, e289, e290, e291, e292, e293, e295, e296, e297, e298, e300, e302, e303, e304, e305, e306, e307, e308, e309, e310, e311, e312, e313, e314, e315, e316, e317, e318, e319, e320]
noncomputable def tab13 : T W := T.ofPairs (entsL ents13)
theorem tab13_ok (lf K : Nat) : TabOK env13 lf K tab13 := entsL_ok _ _ _
end Go.Proofs.YtifgpgahbbbkpaaGreat
