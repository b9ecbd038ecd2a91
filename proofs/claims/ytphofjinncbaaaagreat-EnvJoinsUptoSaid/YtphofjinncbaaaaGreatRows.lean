/-
  No cell of these rows narrows 'for every input' (looked for: loops, veiled, ifaces, maps, wideKeys, modest, calm, conditions, laid).
  DERIVED. THE GIVEN ROWS OF THIS SEAT. 4 by the template 'for every input the law returns true; each argument reads behind the call as it read before'; 0 by the template 'total and deterministic' (their statements: YtphofjinncbaaaaGreatTotals.lean).
  GIVEN WITH THE SEED: the statements are not yours to turn. If you find one false, say at which input.
  Laid BY PROGRAM, IN A SANDBOX (cutbox-rows.mjs): the forced cells as the released guide's own fill.sh prints them over the translation 7035fbcafed7d4f5… (all of the seat's roots in one cut). By AI agents, Wed Nov 11 2026. No macro, syntax, notation, axiom, sorry.
-/
import Derived.Test.YtphofjinncbaaaaGreatChecked
import GoSem.Claim
import GoSem.ClaimJoined
import GoSem.ClaimMapViews
import Derived.JoinedTies
import Derived.KernelRfl
namespace Go.Proofs.YtphofjinncbaaaaGreat
/- THE CELL 'sum', in the pinned program and in every row, IS THE sha256 OF THE DUMP (.gsa) THAT YtphofjinncbaaaaGreatProg.lean LOADS. Nothing in Lean hashes anything: it is a label: what it is worth is what the hold of that sum in a sandbox is worth. -/
noncomputable def Tryz.pinned : Pinned := { name := "ytphofjinncbaaaagreat", sum := "7035fbcafed7d4f5f6a45beb413a1f22093f643a96b79edd955f5250265b44c3", checked := Tryz.checked }
namespace Rows
def none {H : Type} : Left H := { results := [], args := [] }

/-- 'surdlaw26.EnvPuts': WHATEVER THE INPUT: true; the input reads as it did. -/
def envPutsSpec : ChangeSpec := { name := "envPuts", fn := fun _ => fun
  | [d1, d2, d3] => { results := [.lit (.bool true)], args := [d1, d2, d3] }
  | _ => none }
def envPutsRow : OpenClaim := { program := "ytphofjinncbaaaagreat", sum := "7035fbcafed7d4f5f6a45beb413a1f22093f643a96b79edd955f5250265b44c3", func := "surd/surdlaw26.EnvPuts", spec := "envPuts", inPlace := ["math/bits.Add64", "math/bits.Sub64", "internal/bytealg.abigen_runtime_cmpstring", "slices.overlaps[surd/env.Bind]"], unfollowed := true, recurses := true, named := ["math/bits.divideError", "math/bits.overflowError"], apart := false }
def EnvPutsSaid : Prop := envPutsRow.holds Tryz.pinned (OpenSpec.ofChange envPutsSpec)

/-- ITS FALSE NEIGHBOUR: 'it returns false'. Refute it at one input. -/
def envPutsWrong : ChangeSpec := { name := "envPuts", fn := fun _ => fun
  | [d1, d2, d3] => { results := [.lit (.bool false)], args := [d1, d2, d3] }
  | _ => none }
def EnvPutsWrongFalsely : Prop := envPutsRow.holds Tryz.pinned (OpenSpec.ofChange envPutsWrong)

/-- 'surdlaw26.EnvJoins': WHATEVER THE INPUT: true; the input reads as it did. -/
def envJoinsSpec : ChangeSpec := { name := "envJoins", fn := fun _ => fun
  | [d1, d2] => { results := [.lit (.bool true)], args := [d1, d2] }
  | _ => none }
def envJoinsRow : OpenClaim := { program := "ytphofjinncbaaaagreat", sum := "7035fbcafed7d4f5f6a45beb413a1f22093f643a96b79edd955f5250265b44c3", func := "surd/surdlaw26.EnvJoins", spec := "envJoins", inPlace := ["math/bits.Add64", "math/bits.Sub64", "internal/bytealg.abigen_runtime_cmpstring", "slices.overlaps[surd/env.Bind]"], unfollowed := true, recurses := true, named := ["math/bits.divideError", "math/bits.overflowError"], apart := false }
def EnvJoinsSaid : Prop := envJoinsRow.holds Tryz.pinned (OpenSpec.ofChange envJoinsSpec)

/-- ITS FALSE NEIGHBOUR: 'it returns false'. Refute it at one input. -/
def envJoinsWrong : ChangeSpec := { name := "envJoins", fn := fun _ => fun
  | [d1, d2] => { results := [.lit (.bool false)], args := [d1, d2] }
  | _ => none }
def EnvJoinsWrongFalsely : Prop := envJoinsRow.holds Tryz.pinned (OpenSpec.ofChange envJoinsWrong)

/-- 'surdlaw26.EnvLends': WHATEVER THE INPUT: true; the input reads as it did. -/
def envLendsSpec : ChangeSpec := { name := "envLends", fn := fun _ => fun
  | [d1, d2, d3] => { results := [.lit (.bool true)], args := [d1, d2, d3] }
  | _ => none }
def envLendsRow : OpenClaim := { program := "ytphofjinncbaaaagreat", sum := "7035fbcafed7d4f5f6a45beb413a1f22093f643a96b79edd955f5250265b44c3", func := "surd/surdlaw26.EnvLends", spec := "envLends", inPlace := ["math/bits.Add64", "math/bits.Sub64", "internal/bytealg.abigen_runtime_cmpstring", "slices.overlaps[surd/env.Bind]"], unfollowed := true, recurses := true, named := ["math/bits.divideError", "math/bits.overflowError"], apart := false }
def EnvLendsSaid : Prop := envLendsRow.holds Tryz.pinned (OpenSpec.ofChange envLendsSpec)

/-- ITS FALSE NEIGHBOUR: 'it returns false'. Refute it at one input. -/
def envLendsWrong : ChangeSpec := { name := "envLends", fn := fun _ => fun
  | [d1, d2, d3] => { results := [.lit (.bool false)], args := [d1, d2, d3] }
  | _ => none }
def EnvLendsWrongFalsely : Prop := envLendsRow.holds Tryz.pinned (OpenSpec.ofChange envLendsWrong)

/-- 'surdlaw05.GcdMemory': WHATEVER THE INPUT: true; the input reads as it did. -/
def gcdMemorySpec : ChangeSpec := { name := "gcdMemory", fn := fun _ => fun
  | [d] => { results := [.lit (.bool true)], args := [d] }
  | _ => none }
def gcdMemoryRow : OpenClaim := { program := "ytphofjinncbaaaagreat", sum := "7035fbcafed7d4f5f6a45beb413a1f22093f643a96b79edd955f5250265b44c3", func := "surd/surdlaw05.GcdMemory", spec := "gcdMemory", inPlace := ["math/bits.Add64", "math/bits.Sub64"], recurses := true, named := ["math/bits.divideError", "math/bits.overflowError"], apart := false }
def GcdMemorySaid : Prop := gcdMemoryRow.holds Tryz.pinned (OpenSpec.ofChange gcdMemorySpec)

/-- ITS FALSE NEIGHBOUR: 'it returns false'. Refute it at one input. -/
def gcdMemoryWrong : ChangeSpec := { name := "gcdMemory", fn := fun _ => fun
  | [d] => { results := [.lit (.bool false)], args := [d] }
  | _ => none }
def GcdMemoryWrongFalsely : Prop := gcdMemoryRow.holds Tryz.pinned (OpenSpec.ofChange gcdMemoryWrong)

/- THE SECOND FORM. 'bulk': how many values and letters a reading holds, each counted each time it is reached (what is shared counts as often as it is met; a slice's spare places count too). A statement '..UptoSaid' is the law's where the arguments, and the package variables that the reading takes, are together of bulk at most 1048576: NARROWER than '..Said'. Prove '..Said' where nothing that the law and all that it calls make is longer than what came in: it says more and counts as full. Else prove '..UptoSaid'. A law counts once. -/
mutual
def uptoBulk {H : Type} : DataW H → Nat
  | .lit (.string bytes) => bytes.length + 1
  | .lit _ => 1
  | .nil => 1
  | .ptr d => uptoBulk d + 1
  | .slice elems spare => uptoBulkAll elems + uptoBulkAll spare + 1
  | .agg parts => uptoBulkAll parts + 1
  | .iface _ d => uptoBulk d + 1
  | .map entries => uptoBulkEntries entries + 1
  | .held _ => 1
def uptoBulkAll {H : Type} : List (DataW H) → Nat
  | [] => 0
  | d :: r => uptoBulk d + uptoBulkAll r
def uptoBulkEntries {H : Type} : List (Lit × DataW H) → Nat
  | [] => 0
  | x :: r => uptoBulkEntry x + uptoBulkEntries r
def uptoBulkEntry {H : Type} : Lit × DataW H → Nat
  | (.string bytes, d) => bytes.length + uptoBulk d + 1
  | (_, d) => uptoBulk d + 1
 end
def uptoSmall : (H : Type) → List (DataW H) → Bool := fun _ ds => decide (uptoBulkAll ds ≤ 1048576)
def OpenSpec.upto (s : _root_.Go.ChangeSpec) : _root_.Go.OpenSpec := { _root_.Go.OpenSpec.ofChange s with cond := some uptoSmall }

/-- 'surdlaw26.EnvPuts', WHERE WHAT IT READS IS OF BULK AT MOST 1048576: true; the input reads as it did. -/
def envPutsUptoRow : OpenClaim := { program := "ytphofjinncbaaaagreat", sum := "7035fbcafed7d4f5f6a45beb413a1f22093f643a96b79edd955f5250265b44c3", func := "surd/surdlaw26.EnvPuts", spec := "envPuts", inPlace := ["math/bits.Add64", "math/bits.Sub64", "internal/bytealg.abigen_runtime_cmpstring", "slices.overlaps[surd/env.Bind]"], unfollowed := true, recurses := true, named := ["math/bits.divideError", "math/bits.overflowError"], apart := false, narrowed := true }
def EnvPutsUptoSaid : Prop := envPutsUptoRow.holds Tryz.pinned (OpenSpec.upto envPutsSpec)

/-- 'surdlaw26.EnvJoins', WHERE WHAT IT READS IS OF BULK AT MOST 1048576: true; the input reads as it did. -/
def envJoinsUptoRow : OpenClaim := { program := "ytphofjinncbaaaagreat", sum := "7035fbcafed7d4f5f6a45beb413a1f22093f643a96b79edd955f5250265b44c3", func := "surd/surdlaw26.EnvJoins", spec := "envJoins", inPlace := ["math/bits.Add64", "math/bits.Sub64", "internal/bytealg.abigen_runtime_cmpstring", "slices.overlaps[surd/env.Bind]"], unfollowed := true, recurses := true, named := ["math/bits.divideError", "math/bits.overflowError"], apart := false, narrowed := true }
def EnvJoinsUptoSaid : Prop := envJoinsUptoRow.holds Tryz.pinned (OpenSpec.upto envJoinsSpec)

/-- 'surdlaw26.EnvLends', WHERE WHAT IT READS IS OF BULK AT MOST 1048576: true; the input reads as it did. -/
def envLendsUptoRow : OpenClaim := { program := "ytphofjinncbaaaagreat", sum := "7035fbcafed7d4f5f6a45beb413a1f22093f643a96b79edd955f5250265b44c3", func := "surd/surdlaw26.EnvLends", spec := "envLends", inPlace := ["math/bits.Add64", "math/bits.Sub64", "internal/bytealg.abigen_runtime_cmpstring", "slices.overlaps[surd/env.Bind]"], unfollowed := true, recurses := true, named := ["math/bits.divideError", "math/bits.overflowError"], apart := false, narrowed := true }
def EnvLendsUptoSaid : Prop := envLendsUptoRow.holds Tryz.pinned (OpenSpec.upto envLendsSpec)

/-- 'surdlaw05.GcdMemory', WHERE WHAT IT READS IS OF BULK AT MOST 1048576: true; the input reads as it did. -/
def gcdMemoryUptoRow : OpenClaim := { program := "ytphofjinncbaaaagreat", sum := "7035fbcafed7d4f5f6a45beb413a1f22093f643a96b79edd955f5250265b44c3", func := "surd/surdlaw05.GcdMemory", spec := "gcdMemory", inPlace := ["math/bits.Add64", "math/bits.Sub64"], recurses := true, named := ["math/bits.divideError", "math/bits.overflowError"], apart := false, narrowed := true }
def GcdMemoryUptoSaid : Prop := gcdMemoryUptoRow.holds Tryz.pinned (OpenSpec.upto gcdMemorySpec)

end Rows
end Go.Proofs.YtphofjinncbaaaaGreat
