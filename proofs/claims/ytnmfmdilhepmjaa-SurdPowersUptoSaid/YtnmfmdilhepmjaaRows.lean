/-
  No cell of these rows narrows 'for every input' (looked for: loops, veiled, ifaces, maps, wideKeys, modest, calm, conditions, laid).
  DERIVED. THE GIVEN ROWS OF THIS SEAT. 3 by the template 'for every input the law returns true; each argument reads behind the call as it read before'; 0 by the template 'total and deterministic' (their statements: YtnmfmdilhepmjaaTotals.lean).
  GIVEN WITH THE SEED: the statements are not yours to turn. If you find one false, say at which input.
  Laid BY PROGRAM, IN A SANDBOX (cutbox-rows.mjs): the forced cells as the released guide's own fill.sh prints them over the translation faa5d5be5b09d201… (all of the seat's roots in one cut). By AI agents, Wed Nov 11 2026. No macro, syntax, notation, axiom, sorry.
-/
import Derived.Test.YtnmfmdilhepmjaaChecked
import GoSem.Claim
import GoSem.ClaimJoined
import GoSem.ClaimMapViews
import Derived.JoinedTies
import Derived.KernelRfl
namespace Go.Proofs.Ytnmfmdilhepmjaa
/- THE CELL 'sum', in the pinned program and in every row, IS THE sha256 OF THE DUMP (.gsa) THAT YtnmfmdilhepmjaaProg.lean LOADS. Nothing in Lean hashes anything: it is a label: what it is worth is what the hold of that sum in a sandbox is worth. -/
noncomputable def Try.pinned : Pinned := { name := "ytnmfmdilhepmjaa", sum := "faa5d5be5b09d2010c42bb4846b43a525fd64efae0c1ed2992f53f4563fbdde5", checked := Try.checked }
namespace Rows
def none {H : Type} : Left H := { results := [], args := [] }

/-- 'surdtop.SurdDivides': WHATEVER THE INPUT: true; the input reads as it did. -/
def surdDividesSpec : ChangeSpec := { name := "surdDivides", fn := fun _ => fun
  | [d1, d2, d3] => { results := [.lit (.bool true)], args := [d1, d2, d3] }
  | _ => none }
def surdDividesRow : OpenClaim := { program := "ytnmfmdilhepmjaa", sum := "faa5d5be5b09d2010c42bb4846b43a525fd64efae0c1ed2992f53f4563fbdde5", func := "surd/surdtop.SurdDivides", spec := "surdDivides", inPlace := ["math/bits.Add64", "math/bits.Sub64"], recurses := true, named := ["math/bits.divideError", "math/bits.overflowError"], apart := false }
def SurdDividesSaid : Prop := surdDividesRow.holds Try.pinned (OpenSpec.ofChange surdDividesSpec)

/-- ITS FALSE NEIGHBOUR: 'it returns false'. Refute it at one input. -/
def surdDividesWrong : ChangeSpec := { name := "surdDivides", fn := fun _ => fun
  | [d1, d2, d3] => { results := [.lit (.bool false)], args := [d1, d2, d3] }
  | _ => none }
def SurdDividesWrongFalsely : Prop := surdDividesRow.holds Try.pinned (OpenSpec.ofChange surdDividesWrong)

/-- 'surdtop.SurdPowers': WHATEVER THE INPUT: true; the input reads as it did. -/
def surdPowersSpec : ChangeSpec := { name := "surdPowers", fn := fun _ => fun
  | [d1, d2, d3] => { results := [.lit (.bool true)], args := [d1, d2, d3] }
  | _ => none }
def surdPowersRow : OpenClaim := { program := "ytnmfmdilhepmjaa", sum := "faa5d5be5b09d2010c42bb4846b43a525fd64efae0c1ed2992f53f4563fbdde5", func := "surd/surdtop.SurdPowers", spec := "surdPowers", inPlace := ["math/bits.Add64", "math/bits.Sub64"], unfollowed := true, recurses := true, named := ["math/bits.divideError", "math/bits.overflowError"], apart := false }
def SurdPowersSaid : Prop := surdPowersRow.holds Try.pinned (OpenSpec.ofChange surdPowersSpec)

/-- ITS FALSE NEIGHBOUR: 'it returns false'. Refute it at one input. -/
def surdPowersWrong : ChangeSpec := { name := "surdPowers", fn := fun _ => fun
  | [d1, d2, d3] => { results := [.lit (.bool false)], args := [d1, d2, d3] }
  | _ => none }
def SurdPowersWrongFalsely : Prop := surdPowersRow.holds Try.pinned (OpenSpec.ofChange surdPowersWrong)

/-- 'surdtop.SurdGcds': WHATEVER THE INPUT: true; the input reads as it did. -/
def surdGcdsSpec : ChangeSpec := { name := "surdGcds", fn := fun _ => fun
  | [d1, d2, d3] => { results := [.lit (.bool true)], args := [d1, d2, d3] }
  | _ => none }
def surdGcdsRow : OpenClaim := { program := "ytnmfmdilhepmjaa", sum := "faa5d5be5b09d2010c42bb4846b43a525fd64efae0c1ed2992f53f4563fbdde5", func := "surd/surdtop.SurdGcds", spec := "surdGcds", inPlace := ["math/bits.Add64", "math/bits.Sub64"], recurses := true, named := ["math/bits.divideError", "math/bits.overflowError"], apart := false }
def SurdGcdsSaid : Prop := surdGcdsRow.holds Try.pinned (OpenSpec.ofChange surdGcdsSpec)

/-- ITS FALSE NEIGHBOUR: 'it returns false'. Refute it at one input. -/
def surdGcdsWrong : ChangeSpec := { name := "surdGcds", fn := fun _ => fun
  | [d1, d2, d3] => { results := [.lit (.bool false)], args := [d1, d2, d3] }
  | _ => none }
def SurdGcdsWrongFalsely : Prop := surdGcdsRow.holds Try.pinned (OpenSpec.ofChange surdGcdsWrong)

/- THE SECOND FORM. 'bulk': how many values and letters a reading holds, each counted each time it is reached (what is shared counts as often as it is met; a slice's spare places count too). A statement '..UptoSaid' is the law's where the arguments, and the package variables that the reading takes, are together of bulk at most 1048576: NARROWER than '..Said'. Prove '..Said' where nothing that the law and all that it calls make is longer than what came in: it says more and counts as full. Else prove '..UptoSaid'. A law counts once. -/
mutual
def uptoBulk {H : Type} : DataW H → Nat
  | .lit (.string bytes) => bytes.length + 1
  | .lit _ => 1
  | .nil => 1
  | .ptr d => uptoBulk d + 1
  | .slice elems spare => uptoBulkAll elems + uptoBulkAll spare + 1
  | .agg parts => uptoBulkAll parts + 1
  | .iface _ d => uptoBulk d + 1
  | .map entries => uptoBulkEntries entries + 1
  | .held _ => 1
def uptoBulkAll {H : Type} : List (DataW H) → Nat
  | [] => 0
  | d :: r => uptoBulk d + uptoBulkAll r
def uptoBulkEntries {H : Type} : List (Lit × DataW H) → Nat
  | [] => 0
  | x :: r => uptoBulkEntry x + uptoBulkEntries r
def uptoBulkEntry {H : Type} : Lit × DataW H → Nat
  | (.string bytes, d) => bytes.length + uptoBulk d + 1
  | (_, d) => uptoBulk d + 1
 end
def uptoSmall : (H : Type) → List (DataW H) → Bool := fun _ ds => decide (uptoBulkAll ds ≤ 1048576)
def OpenSpec.upto (s : _root_.Go.ChangeSpec) : _root_.Go.OpenSpec := { _root_.Go.OpenSpec.ofChange s with cond := some uptoSmall }

/-- 'surdtop.SurdDivides', WHERE WHAT IT READS IS OF BULK AT MOST 1048576: true; the input reads as it did. -/
def surdDividesUptoRow : OpenClaim := { program := "ytnmfmdilhepmjaa", sum := "faa5d5be5b09d2010c42bb4846b43a525fd64efae0c1ed2992f53f4563fbdde5", func := "surd/surdtop.SurdDivides", spec := "surdDivides", inPlace := ["math/bits.Add64", "math/bits.Sub64"], recurses := true, named := ["math/bits.divideError", "math/bits.overflowError"], apart := false, narrowed := true }
def SurdDividesUptoSaid : Prop := surdDividesUptoRow.holds Try.pinned (OpenSpec.upto surdDividesSpec)

/-- 'surdtop.SurdPowers', WHERE WHAT IT READS IS OF BULK AT MOST 1048576: true; the input reads as it did. -/
def surdPowersUptoRow : OpenClaim := { program := "ytnmfmdilhepmjaa", sum := "faa5d5be5b09d2010c42bb4846b43a525fd64efae0c1ed2992f53f4563fbdde5", func := "surd/surdtop.SurdPowers", spec := "surdPowers", inPlace := ["math/bits.Add64", "math/bits.Sub64"], unfollowed := true, recurses := true, named := ["math/bits.divideError", "math/bits.overflowError"], apart := false, narrowed := true }
def SurdPowersUptoSaid : Prop := surdPowersUptoRow.holds Try.pinned (OpenSpec.upto surdPowersSpec)

/-- 'surdtop.SurdGcds', WHERE WHAT IT READS IS OF BULK AT MOST 1048576: true; the input reads as it did. -/
def surdGcdsUptoRow : OpenClaim := { program := "ytnmfmdilhepmjaa", sum := "faa5d5be5b09d2010c42bb4846b43a525fd64efae0c1ed2992f53f4563fbdde5", func := "surd/surdtop.SurdGcds", spec := "surdGcds", inPlace := ["math/bits.Add64", "math/bits.Sub64"], recurses := true, named := ["math/bits.divideError", "math/bits.overflowError"], apart := false, narrowed := true }
def SurdGcdsUptoSaid : Prop := surdGcdsUptoRow.holds Try.pinned (OpenSpec.upto surdGcdsSpec)

end Rows
end Go.Proofs.Ytnmfmdilhepmjaa
