/-
  No cell of these rows narrows 'for every input' (looked for: loops, veiled, ifaces, maps, wideKeys, modest, calm, conditions, laid).
  DERIVED. THE GIVEN ROWS OF THIS SEAT. 3 by the template 'for every input the law returns true; each argument reads behind the call as it read before'; 0 by the template 'total and deterministic' (their statements: YtphofjinncbaaaaTotals.lean).
  GIVEN WITH THE SEED: the statements are not yours to turn. If you find one false, say at which input.
  Laid BY PROGRAM, IN A SANDBOX (cutbox-rows.mjs): the forced cells as the released guide's own fill.sh prints them over the translation b90bce852b7aa1a9… (all of the seat's roots in one cut). By AI agents, Wed Nov 11 2026. No macro, syntax, notation, axiom, sorry.
-/
import Derived.Test.YtphofjinncbaaaaChecked
import GoSem.Claim
import GoSem.ClaimJoined
import GoSem.ClaimMapViews
import Derived.JoinedTies
import Derived.KernelRfl
namespace Go.Proofs.Ytphofjinncbaaaa
/- THE CELL 'sum', in the pinned program and in every row, IS THE sha256 OF THE DUMP (.gsa) THAT YtphofjinncbaaaaProg.lean LOADS. Nothing in Lean hashes anything: it is a label: what it is worth is what the hold of that sum in a sandbox is worth. -/
noncomputable def Try.pinned : Pinned := { name := "ytphofjinncbaaaa", sum := "b90bce852b7aa1a963674f1871db35abd4296b374a5c569e368961eceabbd1bb", checked := Try.checked }
namespace Rows
def none {H : Type} : Left H := { results := [], args := [] }

/-- 'surdlaw26.EnvLaws': WHATEVER THE INPUT: true; the input reads as it did. -/
def envLawsSpec : ChangeSpec := { name := "envLaws", fn := fun _ => fun
  | [d1, d2, d3] => { results := [.lit (.bool true)], args := [d1, d2, d3] }
  | _ => none }
def envLawsRow : OpenClaim := { program := "ytphofjinncbaaaa", sum := "b90bce852b7aa1a963674f1871db35abd4296b374a5c569e368961eceabbd1bb", func := "surd/surdlaw26.EnvLaws", spec := "envLaws", inPlace := ["math/bits.Add64", "math/bits.Sub64", "internal/bytealg.abigen_runtime_cmpstring", "slices.overlaps[surd/env.Bind]"], unfollowed := true, recurses := true, named := ["math/bits.divideError", "math/bits.overflowError"], apart := false }
def EnvLawsSaid : Prop := envLawsRow.holds Try.pinned (OpenSpec.ofChange envLawsSpec)

/-- ITS FALSE NEIGHBOUR: 'it returns false'. Refute it at one input. -/
def envLawsWrong : ChangeSpec := { name := "envLaws", fn := fun _ => fun
  | [d1, d2, d3] => { results := [.lit (.bool false)], args := [d1, d2, d3] }
  | _ => none }
def EnvLawsWrongFalsely : Prop := envLawsRow.holds Try.pinned (OpenSpec.ofChange envLawsWrong)

/-- 'surdtop.SurdMoves': WHATEVER THE INPUT: true; the input reads as it did. -/
def surdMovesSpec : ChangeSpec := { name := "surdMoves", fn := fun _ => fun
  | [d1, d2, d3] => { results := [.lit (.bool true)], args := [d1, d2, d3] }
  | _ => none }
def surdMovesRow : OpenClaim := { program := "ytphofjinncbaaaa", sum := "b90bce852b7aa1a963674f1871db35abd4296b374a5c569e368961eceabbd1bb", func := "surd/surdtop.SurdMoves", spec := "surdMoves", inPlace := ["math/bits.Add64", "math/bits.Sub64"], unfollowed := true, recurses := true, apart := false }
def SurdMovesSaid : Prop := surdMovesRow.holds Try.pinned (OpenSpec.ofChange surdMovesSpec)

/-- ITS FALSE NEIGHBOUR: 'it returns false'. Refute it at one input. -/
def surdMovesWrong : ChangeSpec := { name := "surdMoves", fn := fun _ => fun
  | [d1, d2, d3] => { results := [.lit (.bool false)], args := [d1, d2, d3] }
  | _ => none }
def SurdMovesWrongFalsely : Prop := surdMovesRow.holds Try.pinned (OpenSpec.ofChange surdMovesWrong)

/-- 'surdtop.SurdGauss': WHATEVER THE INPUT: true; the input reads as it did. -/
def surdGaussSpec : ChangeSpec := { name := "surdGauss", fn := fun _ => fun
  | [d1, d2, d3] => { results := [.lit (.bool true)], args := [d1, d2, d3] }
  | _ => none }
def surdGaussRow : OpenClaim := { program := "ytphofjinncbaaaa", sum := "b90bce852b7aa1a963674f1871db35abd4296b374a5c569e368961eceabbd1bb", func := "surd/surdtop.SurdGauss", spec := "surdGauss", inPlace := ["math/bits.Add64", "math/bits.Sub64"], recurses := true, apart := false }
def SurdGaussSaid : Prop := surdGaussRow.holds Try.pinned (OpenSpec.ofChange surdGaussSpec)

/-- ITS FALSE NEIGHBOUR: 'it returns false'. Refute it at one input. -/
def surdGaussWrong : ChangeSpec := { name := "surdGauss", fn := fun _ => fun
  | [d1, d2, d3] => { results := [.lit (.bool false)], args := [d1, d2, d3] }
  | _ => none }
def SurdGaussWrongFalsely : Prop := surdGaussRow.holds Try.pinned (OpenSpec.ofChange surdGaussWrong)

/- THE SECOND FORM. 'bulk': how many values and letters a reading holds, each counted each time it is reached (what is shared counts as often as it is met; a slice's spare places count too). A statement '..UptoSaid' is the law's where the arguments, and the package variables that the reading takes, are together of bulk at most 1048576: NARROWER than '..Said'. Prove '..Said' where nothing that the law and all that it calls make is longer than what came in: it says more and counts as full. Else prove '..UptoSaid'. A law counts once. -/
mutual
def uptoBulk {H : Type} : DataW H → Nat
  | .lit (.string bytes) => bytes.length + 1
  | .lit _ => 1
  | .nil => 1
  | .ptr d => uptoBulk d + 1
  | .slice elems spare => uptoBulkAll elems + uptoBulkAll spare + 1
  | .agg parts => uptoBulkAll parts + 1
  | .iface _ d => uptoBulk d + 1
  | .map entries => uptoBulkEntries entries + 1
  | .held _ => 1
def uptoBulkAll {H : Type} : List (DataW H) → Nat
  | [] => 0
  | d :: r => uptoBulk d + uptoBulkAll r
def uptoBulkEntries {H : Type} : List (Lit × DataW H) → Nat
  | [] => 0
  | x :: r => uptoBulkEntry x + uptoBulkEntries r
def uptoBulkEntry {H : Type} : Lit × DataW H → Nat
  | (.string bytes, d) => bytes.length + uptoBulk d + 1
  | (_, d) => uptoBulk d + 1
 end
def uptoSmall : (H : Type) → List (DataW H) → Bool := fun _ ds => decide (uptoBulkAll ds ≤ 1048576)
def OpenSpec.upto (s : _root_.Go.ChangeSpec) : _root_.Go.OpenSpec := { _root_.Go.OpenSpec.ofChange s with cond := some uptoSmall }

/-- 'surdlaw26.EnvLaws', WHERE WHAT IT READS IS OF BULK AT MOST 1048576: true; the input reads as it did. -/
def envLawsUptoRow : OpenClaim := { program := "ytphofjinncbaaaa", sum := "b90bce852b7aa1a963674f1871db35abd4296b374a5c569e368961eceabbd1bb", func := "surd/surdlaw26.EnvLaws", spec := "envLaws", inPlace := ["math/bits.Add64", "math/bits.Sub64", "internal/bytealg.abigen_runtime_cmpstring", "slices.overlaps[surd/env.Bind]"], unfollowed := true, recurses := true, named := ["math/bits.divideError", "math/bits.overflowError"], apart := false, narrowed := true }
def EnvLawsUptoSaid : Prop := envLawsUptoRow.holds Try.pinned (OpenSpec.upto envLawsSpec)

/-- 'surdtop.SurdMoves', WHERE WHAT IT READS IS OF BULK AT MOST 1048576: true; the input reads as it did. -/
def surdMovesUptoRow : OpenClaim := { program := "ytphofjinncbaaaa", sum := "b90bce852b7aa1a963674f1871db35abd4296b374a5c569e368961eceabbd1bb", func := "surd/surdtop.SurdMoves", spec := "surdMoves", inPlace := ["math/bits.Add64", "math/bits.Sub64"], unfollowed := true, recurses := true, apart := false, narrowed := true }
def SurdMovesUptoSaid : Prop := surdMovesUptoRow.holds Try.pinned (OpenSpec.upto surdMovesSpec)

/-- 'surdtop.SurdGauss', WHERE WHAT IT READS IS OF BULK AT MOST 1048576: true; the input reads as it did. -/
def surdGaussUptoRow : OpenClaim := { program := "ytphofjinncbaaaa", sum := "b90bce852b7aa1a963674f1871db35abd4296b374a5c569e368961eceabbd1bb", func := "surd/surdtop.SurdGauss", spec := "surdGauss", inPlace := ["math/bits.Add64", "math/bits.Sub64"], recurses := true, apart := false, narrowed := true }
def SurdGaussUptoSaid : Prop := surdGaussUptoRow.holds Try.pinned (OpenSpec.upto surdGaussSpec)

end Rows
end Go.Proofs.Ytphofjinncbaaaa
