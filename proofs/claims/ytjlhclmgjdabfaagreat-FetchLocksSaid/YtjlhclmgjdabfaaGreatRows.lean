/-
  No cell of these rows narrows 'for every input' (looked for: loops, veiled, ifaces, maps, wideKeys, modest, calm, conditions, laid).
  DERIVED. THE GIVEN ROWS OF THIS SEAT. 4 by the template 'for every input the law returns true; each argument reads behind the call as it read before'; 0 by the template 'total and deterministic' (their statements: YtjlhclmgjdabfaaGreatTotals.lean).
  GIVEN WITH THE SEED: the statements are not yours to turn. If you find one false, say at which input.
  Laid BY PROGRAM, IN A SANDBOX (cutbox-rows.mjs): the forced cells as the released guide's own fill.sh prints them over the translation 8e79079e2dab25b0… (all of the seat's roots in one cut). By AI agents, Wed Nov 11 2026. No macro, syntax, notation, axiom, sorry.
-/
import Derived.Test.YtjlhclmgjdabfaaGreatChecked
import GoSem.Claim
import GoSem.ClaimJoined
import GoSem.ClaimMapViews
import Derived.JoinedTies
import Derived.KernelRfl
namespace Go.Proofs.YtjlhclmgjdabfaaGreat
/- THE CELL 'sum', in the pinned program and in every row, IS THE sha256 OF THE DUMP (.gsa) THAT YtjlhclmgjdabfaaGreatProg.lean LOADS. Nothing in Lean hashes anything: it is a label: what it is worth is what the hold of that sum in a sandbox is worth. -/
noncomputable def Tryz.pinned : Pinned := { name := "ytjlhclmgjdabfaagreat", sum := "8e79079e2dab25b0ded9f88702f6d099b8373d091fc7a12292e20fdbb2f60960", checked := Tryz.checked }
namespace Rows
def none {H : Type} : Left H := { results := [], args := [] }

/-- 'bodegalaw16.FetchValid': WHATEVER THE INPUT: true; the input reads as it did. -/
def fetchValidSpec : ChangeSpec := { name := "fetchValid", fn := fun _ => fun
  | [d1, d2] => { results := [.lit (.bool true)], args := [d1, d2] }
  | _ => none }
def fetchValidRow : OpenClaim := { program := "ytjlhclmgjdabfaagreat", sum := "8e79079e2dab25b0ded9f88702f6d099b8373d091fc7a12292e20fdbb2f60960", func := "bodega/bodegalaw16.FetchValid", spec := "fetchValid", unfollowed := true, recurses := true, apart := false }
def FetchValidSaid : Prop := fetchValidRow.holds Tryz.pinned (OpenSpec.ofChange fetchValidSpec)

/-- ITS FALSE NEIGHBOUR: 'it returns false'. Refute it at one input. -/
def fetchValidWrong : ChangeSpec := { name := "fetchValid", fn := fun _ => fun
  | [d1, d2] => { results := [.lit (.bool false)], args := [d1, d2] }
  | _ => none }
def FetchValidWrongFalsely : Prop := fetchValidRow.holds Tryz.pinned (OpenSpec.ofChange fetchValidWrong)

/-- 'bodegalaw16.FetchExact': WHATEVER THE INPUT: true; the input reads as it did. -/
def fetchExactSpec : ChangeSpec := { name := "fetchExact", fn := fun _ => fun
  | [d1, d2, d3, d4, d5] => { results := [.lit (.bool true)], args := [d1, d2, d3, d4, d5] }
  | _ => none }
def fetchExactRow : OpenClaim := { program := "ytjlhclmgjdabfaagreat", sum := "8e79079e2dab25b0ded9f88702f6d099b8373d091fc7a12292e20fdbb2f60960", func := "bodega/bodegalaw16.FetchExact", spec := "fetchExact", unfollowed := true, recurses := true, apart := false }
def FetchExactSaid : Prop := fetchExactRow.holds Tryz.pinned (OpenSpec.ofChange fetchExactSpec)

/-- ITS FALSE NEIGHBOUR: 'it returns false'. Refute it at one input. -/
def fetchExactWrong : ChangeSpec := { name := "fetchExact", fn := fun _ => fun
  | [d1, d2, d3, d4, d5] => { results := [.lit (.bool false)], args := [d1, d2, d3, d4, d5] }
  | _ => none }
def FetchExactWrongFalsely : Prop := fetchExactRow.holds Tryz.pinned (OpenSpec.ofChange fetchExactWrong)

/-- 'bodegalaw16.FetchAtomic': WHATEVER THE INPUT: true; the input reads as it did. -/
def fetchAtomicSpec : ChangeSpec := { name := "fetchAtomic", fn := fun _ => fun
  | [d1, d2, d3] => { results := [.lit (.bool true)], args := [d1, d2, d3] }
  | _ => none }
def fetchAtomicRow : OpenClaim := { program := "ytjlhclmgjdabfaagreat", sum := "8e79079e2dab25b0ded9f88702f6d099b8373d091fc7a12292e20fdbb2f60960", func := "bodega/bodegalaw16.FetchAtomic", spec := "fetchAtomic", unfollowed := true, recurses := true, apart := false }
def FetchAtomicSaid : Prop := fetchAtomicRow.holds Tryz.pinned (OpenSpec.ofChange fetchAtomicSpec)

/-- ITS FALSE NEIGHBOUR: 'it returns false'. Refute it at one input. -/
def fetchAtomicWrong : ChangeSpec := { name := "fetchAtomic", fn := fun _ => fun
  | [d1, d2, d3] => { results := [.lit (.bool false)], args := [d1, d2, d3] }
  | _ => none }
def FetchAtomicWrongFalsely : Prop := fetchAtomicRow.holds Tryz.pinned (OpenSpec.ofChange fetchAtomicWrong)

/-- 'bodegalaw16.FetchLocks': WHATEVER THE INPUT: true; the input reads as it did. -/
def fetchLocksSpec : ChangeSpec := { name := "fetchLocks", fn := fun _ => fun
  | [d1, d2] => { results := [.lit (.bool true)], args := [d1, d2] }
  | _ => none }
def fetchLocksRow : OpenClaim := { program := "ytjlhclmgjdabfaagreat", sum := "8e79079e2dab25b0ded9f88702f6d099b8373d091fc7a12292e20fdbb2f60960", func := "bodega/bodegalaw16.FetchLocks", spec := "fetchLocks", unfollowed := true, recurses := true, apart := false }
def FetchLocksSaid : Prop := fetchLocksRow.holds Tryz.pinned (OpenSpec.ofChange fetchLocksSpec)

/-- ITS FALSE NEIGHBOUR: 'it returns false'. Refute it at one input. -/
def fetchLocksWrong : ChangeSpec := { name := "fetchLocks", fn := fun _ => fun
  | [d1, d2] => { results := [.lit (.bool false)], args := [d1, d2] }
  | _ => none }
def FetchLocksWrongFalsely : Prop := fetchLocksRow.holds Tryz.pinned (OpenSpec.ofChange fetchLocksWrong)

/- THE SECOND FORM. 'bulk': how many values and letters a reading holds, each counted each time it is reached (what is shared counts as often as it is met; a slice's spare places count too). A statement '..UptoSaid' is the law's where the arguments, and the package variables that the reading takes, are together of bulk at most 1048576: NARROWER than '..Said'. Prove '..Said' where nothing that the law and all that it calls make is longer than what came in: it says more and counts as full. Else prove '..UptoSaid'. A law counts once. -/
mutual
def uptoBulk {H : Type} : DataW H → Nat
  | .lit (.string bytes) => bytes.length + 1
  | .lit _ => 1
  | .nil => 1
  | .ptr d => uptoBulk d + 1
  | .slice elems spare => uptoBulkAll elems + uptoBulkAll spare + 1
  | .agg parts => uptoBulkAll parts + 1
  | .iface _ d => uptoBulk d + 1
  | .map entries => uptoBulkEntries entries + 1
  | .held _ => 1
def uptoBulkAll {H : Type} : List (DataW H) → Nat
  | [] => 0
  | d :: r => uptoBulk d + uptoBulkAll r
def uptoBulkEntries {H : Type} : List (Lit × DataW H) → Nat
  | [] => 0
  | x :: r => uptoBulkEntry x + uptoBulkEntries r
def uptoBulkEntry {H : Type} : Lit × DataW H → Nat
  | (.string bytes, d) => bytes.length + uptoBulk d + 1
  | (_, d) => uptoBulk d + 1
 end
def uptoSmall : (H : Type) → List (DataW H) → Bool := fun _ ds => decide (uptoBulkAll ds ≤ 1048576)
def OpenSpec.upto (s : _root_.Go.ChangeSpec) : _root_.Go.OpenSpec := { _root_.Go.OpenSpec.ofChange s with cond := some uptoSmall }

/-- 'bodegalaw16.FetchValid', WHERE WHAT IT READS IS OF BULK AT MOST 1048576: true; the input reads as it did. -/
def fetchValidUptoRow : OpenClaim := { program := "ytjlhclmgjdabfaagreat", sum := "8e79079e2dab25b0ded9f88702f6d099b8373d091fc7a12292e20fdbb2f60960", func := "bodega/bodegalaw16.FetchValid", spec := "fetchValid", unfollowed := true, recurses := true, apart := false, narrowed := true }
def FetchValidUptoSaid : Prop := fetchValidUptoRow.holds Tryz.pinned (OpenSpec.upto fetchValidSpec)

/-- 'bodegalaw16.FetchExact', WHERE WHAT IT READS IS OF BULK AT MOST 1048576: true; the input reads as it did. -/
def fetchExactUptoRow : OpenClaim := { program := "ytjlhclmgjdabfaagreat", sum := "8e79079e2dab25b0ded9f88702f6d099b8373d091fc7a12292e20fdbb2f60960", func := "bodega/bodegalaw16.FetchExact", spec := "fetchExact", unfollowed := true, recurses := true, apart := false, narrowed := true }
def FetchExactUptoSaid : Prop := fetchExactUptoRow.holds Tryz.pinned (OpenSpec.upto fetchExactSpec)

/-- 'bodegalaw16.FetchAtomic', WHERE WHAT IT READS IS OF BULK AT MOST 1048576: true; the input reads as it did. -/
def fetchAtomicUptoRow : OpenClaim := { program := "ytjlhclmgjdabfaagreat", sum := "8e79079e2dab25b0ded9f88702f6d099b8373d091fc7a12292e20fdbb2f60960", func := "bodega/bodegalaw16.FetchAtomic", spec := "fetchAtomic", unfollowed := true, recurses := true, apart := false, narrowed := true }
def FetchAtomicUptoSaid : Prop := fetchAtomicUptoRow.holds Tryz.pinned (OpenSpec.upto fetchAtomicSpec)

/-- 'bodegalaw16.FetchLocks', WHERE WHAT IT READS IS OF BULK AT MOST 1048576: true; the input reads as it did. -/
def fetchLocksUptoRow : OpenClaim := { program := "ytjlhclmgjdabfaagreat", sum := "8e79079e2dab25b0ded9f88702f6d099b8373d091fc7a12292e20fdbb2f60960", func := "bodega/bodegalaw16.FetchLocks", spec := "fetchLocks", unfollowed := true, recurses := true, apart := false, narrowed := true }
def FetchLocksUptoSaid : Prop := fetchLocksUptoRow.holds Tryz.pinned (OpenSpec.upto fetchLocksSpec)

end Rows
end Go.Proofs.YtjlhclmgjdabfaaGreat
