/- Words of the printed shallow code.
Conditions: none. -/
import Derived.Test.YtjlhclmgjdabfaaGreatAxK
import Derived.Test.YtjlhclmgjdabfaaGreatAxMa
namespace Go.Ax
set_option linter.unusedVariables false
set_option linter.unusedSimpArgs false
set_option linter.unusedSectionVars false
abbrev vI (n : Int) : Value := .int .i64 n
abbrev vU (n : Int) : Value := .int .u64 n
abbrev vB (n : Int) : Value := .int .u8 n
abbrev sI : S2 := .one (.int .i64)
abbrev sU : S2 := .one (.int .u64)
abbrev sS : S2 := .one .slice
abbrev sB : S2 := .one .bool
abbrev sP : S2 := .one .ptr
abbrev jI : S1 := .int .i64
abbrev jU : S1 := .int .u64
abbrev bA (b : Nat) : Option Addr := some ⟨b, 0, none⟩
abbrev op {α β : Type} (m : M β) (k : β → Tr α) : Tr α := .op m k
abbrev fail {α : Type} : Tr α := .fail
abbrev tbind {α β : Type} (t : Tr β) (k : β → Tr α) : Tr α := .bind t k
abbrev tloop {α β γ : Type} (body : β → Tr (β ⊕ γ)) (n : Nat) (init : β) (k : γ → Tr α) : Tr α := .loop body n init k
end Go.Ax
