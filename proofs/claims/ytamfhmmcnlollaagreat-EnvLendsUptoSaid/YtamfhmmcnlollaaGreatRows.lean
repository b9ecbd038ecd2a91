/-
  No cell of these rows narrows 'for every input' (looked for: loops, veiled, ifaces, maps, wideKeys, modest, calm, conditions, laid).
  DERIVED. THE GIVEN ROWS OF THIS SEAT. 2 by the template 'for every input the law returns true; each argument reads behind the call as it read before'; 0 by the template 'total and deterministic' (their statements: YtamfhmmcnlollaaGreatTotals.lean).
  GIVEN WITH THE SEED: the statements are not yours to turn. If you find one false, say at which input.
  Laid BY PROGRAM, IN A SANDBOX (cutbox-rows.mjs): the forced cells as the released guide's own fill.sh prints them over the translation 082138581c3ccc96… (all of the seat's roots in one cut). By AI agents, Wed Nov 11 2026. No macro, syntax, notation, axiom, sorry.
-/
import Derived.Test.YtamfhmmcnlollaaGreatChecked
import GoSem.Claim
import GoSem.ClaimJoined
import GoSem.ClaimMapViews
import Derived.JoinedTies
import Derived.KernelRfl
namespace Go.Proofs.YtamfhmmcnlollaaGreat
/- THE CELL 'sum', in the pinned program and in every row, IS THE sha256 OF THE DUMP (.gsa) THAT YtamfhmmcnlollaaGreatProg.lean LOADS. Nothing in Lean hashes anything: it is a label: what it is worth is what the hold of that sum in a sandbox is worth. -/
noncomputable def Tryz.pinned : Pinned := { name := "ytamfhmmcnlollaagreat", sum := "082138581c3ccc9659100028db7474cced698323e86b3a4ce9e8e53a716dde85", checked := Tryz.checked }
namespace Rows
def none {H : Type} : Left H := { results := [], args := [] }

/-- 'surdlaw05.GcdMemory': WHATEVER THE INPUT: true; the input reads as it did. -/
def gcdMemorySpec : ChangeSpec := { name := "gcdMemory", fn := fun _ => fun
  | [d] => { results := [.lit (.bool true)], args := [d] }
  | _ => none }
def gcdMemoryRow : OpenClaim := { program := "ytamfhmmcnlollaagreat", sum := "082138581c3ccc9659100028db7474cced698323e86b3a4ce9e8e53a716dde85", func := "surd/surdlaw05.GcdMemory", spec := "gcdMemory", inPlace := ["math/bits.Add64", "math/bits.Sub64"], recurses := true, named := ["math/bits.divideError", "math/bits.overflowError"], apart := false }
def GcdMemorySaid : Prop := gcdMemoryRow.holds Tryz.pinned (OpenSpec.ofChange gcdMemorySpec)

/-- ITS FALSE NEIGHBOUR: 'it returns false'. Refute it at one input. -/
def gcdMemoryWrong : ChangeSpec := { name := "gcdMemory", fn := fun _ => fun
  | [d] => { results := [.lit (.bool false)], args := [d] }
  | _ => none }
def GcdMemoryWrongFalsely : Prop := gcdMemoryRow.holds Tryz.pinned (OpenSpec.ofChange gcdMemoryWrong)

/-- 'surdlaw26.EnvLends': WHATEVER THE INPUT: true; the input reads as it did. -/
def envLendsSpec : ChangeSpec := { name := "envLends", fn := fun _ => fun
  | [d1, d2, d3] => { results := [.lit (.bool true)], args := [d1, d2, d3] }
  | _ => none }
def envLendsRow : OpenClaim := { program := "ytamfhmmcnlollaagreat", sum := "082138581c3ccc9659100028db7474cced698323e86b3a4ce9e8e53a716dde85", func := "surd/surdlaw26.EnvLends", spec := "envLends", inPlace := ["math/bits.Add64", "math/bits.Sub64", "internal/bytealg.abigen_runtime_cmpstring", "slices.overlaps[surd/env.Bind]"], unfollowed := true, recurses := true, named := ["math/bits.divideError", "math/bits.overflowError"], apart := false }
def EnvLendsSaid : Prop := envLendsRow.holds Tryz.pinned (OpenSpec.ofChange envLendsSpec)

/-- ITS FALSE NEIGHBOUR: 'it returns false'. Refute it at one input. -/
def envLendsWrong : ChangeSpec := { name := "envLends", fn := fun _ => fun
  | [d1, d2, d3] => { results := [.lit (.bool false)], args := [d1, d2, d3] }
  | _ => none }
def EnvLendsWrongFalsely : Prop := envLendsRow.holds Tryz.pinned (OpenSpec.ofChange envLendsWrong)

/- THE SECOND FORM. 'bulk': how many values and letters a reading holds, each counted each time it is reached (what is shared counts as often as it is met; a slice's spare places count too). A statement '..UptoSaid' is the law's where the arguments, and the package variables that the reading takes, are together of bulk at most 1048576: NARROWER than '..Said'. Prove '..Said' where nothing that the law and all that it calls make is longer than what came in: it says more and counts as full. Else prove '..UptoSaid'. A law counts once. -/
mutual
def uptoBulk {H : Type} : DataW H → Nat
  | .lit (.string bytes) => bytes.length + 1
  | .lit _ => 1
  | .nil => 1
  | .ptr d => uptoBulk d + 1
  | .slice elems spare => uptoBulkAll elems + uptoBulkAll spare + 1
  | .agg parts => uptoBulkAll parts + 1
  | .iface _ d => uptoBulk d + 1
  | .map entries => uptoBulkEntries entries + 1
  | .held _ => 1
def uptoBulkAll {H : Type} : List (DataW H) → Nat
  | [] => 0
  | d :: r => uptoBulk d + uptoBulkAll r
def uptoBulkEntries {H : Type} : List (Lit × DataW H) → Nat
  | [] => 0
  | x :: r => uptoBulkEntry x + uptoBulkEntries r
def uptoBulkEntry {H : Type} : Lit × DataW H → Nat
  | (.string bytes, d) => bytes.length + uptoBulk d + 1
  | (_, d) => uptoBulk d + 1
 end
def uptoSmall : (H : Type) → List (DataW H) → Bool := fun _ ds => decide (uptoBulkAll ds ≤ 1048576)
def OpenSpec.upto (s : _root_.Go.ChangeSpec) : _root_.Go.OpenSpec := { _root_.Go.OpenSpec.ofChange s with cond := some uptoSmall }

/-- 'surdlaw05.GcdMemory', WHERE WHAT IT READS IS OF BULK AT MOST 1048576: true; the input reads as it did. -/
def gcdMemoryUptoRow : OpenClaim := { program := "ytamfhmmcnlollaagreat", sum := "082138581c3ccc9659100028db7474cced698323e86b3a4ce9e8e53a716dde85", func := "surd/surdlaw05.GcdMemory", spec := "gcdMemory", inPlace := ["math/bits.Add64", "math/bits.Sub64"], recurses := true, named := ["math/bits.divideError", "math/bits.overflowError"], apart := false, narrowed := true }
def GcdMemoryUptoSaid : Prop := gcdMemoryUptoRow.holds Tryz.pinned (OpenSpec.upto gcdMemorySpec)

/-- 'surdlaw26.EnvLends', WHERE WHAT IT READS IS OF BULK AT MOST 1048576: true; the input reads as it did. -/
def envLendsUptoRow : OpenClaim := { program := "ytamfhmmcnlollaagreat", sum := "082138581c3ccc9659100028db7474cced698323e86b3a4ce9e8e53a716dde85", func := "surd/surdlaw26.EnvLends", spec := "envLends", inPlace := ["math/bits.Add64", "math/bits.Sub64", "internal/bytealg.abigen_runtime_cmpstring", "slices.overlaps[surd/env.Bind]"], unfollowed := true, recurses := true, named := ["math/bits.divideError", "math/bits.overflowError"], apart := false, narrowed := true }
def EnvLendsUptoSaid : Prop := envLendsUptoRow.holds Tryz.pinned (OpenSpec.upto envLendsSpec)

end Rows
end Go.Proofs.YtamfhmmcnlollaaGreat
