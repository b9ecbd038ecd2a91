/-
  No cell of these rows narrows 'for every input' (looked for: loops, veiled, ifaces, maps, wideKeys, modest, calm, conditions, laid).
  DERIVED. THE GIVEN ROWS OF THIS SEAT. 10 by the template 'for every input the law returns true; each argument reads behind the call as it read before'; 0 by the template 'total and deterministic' (their statements: YtgiecdokjmcogaaTotals.lean).
  GIVEN WITH THE SEED: the statements are not yours to turn. If you find one false, say at which input.
  Laid BY PROGRAM, IN A SANDBOX (cutbox-rows.mjs): the forced cells as the released guide's own fill.sh prints them over the translation 1b9724ffbe6eff47… (all of the seat's roots in one cut). By AI agents, Wed Nov 11 2026. No macro, syntax, notation, axiom, sorry.
-/
import Derived.Test.YtgiecdokjmcogaaChecked
import GoSem.Claim
import GoSem.ClaimJoined
import GoSem.ClaimMapViews
import Derived.JoinedTies
import Derived.KernelRfl
namespace Go.Proofs.Ytgiecdokjmcogaa
/- THE CELL 'sum', in the pinned program and in every row, IS THE sha256 OF THE DUMP (.gsa) THAT YtgiecdokjmcogaaProg.lean LOADS. Nothing in Lean hashes anything: it is a label: what it is worth is what the hold of that sum in a sandbox is worth. -/
noncomputable def Try.pinned : Pinned := { name := "ytgiecdokjmcogaa", sum := "1b9724ffbe6eff478f319d7bd2cd18e14f54f95803683161b40cccddcf367aa5", checked := Try.checked }
namespace Rows
def none {H : Type} : Left H := { results := [], args := [] }

/-- 'surdlaw03.MulRing': WHATEVER THE INPUT: true; the input reads as it did. -/
def mulRingSpec : ChangeSpec := { name := "mulRing", fn := fun _ => fun
  | [d1, d2, d3] => { results := [.lit (.bool true)], args := [d1, d2, d3] }
  | _ => none }
def mulRingRow : OpenClaim := { program := "ytgiecdokjmcogaa", sum := "1b9724ffbe6eff478f319d7bd2cd18e14f54f95803683161b40cccddcf367aa5", func := "surd/surdlaw03.MulRing", spec := "mulRing", inPlace := ["math/bits.Add64", "math/bits.Sub64"], recurses := true, apart := false }
def MulRingSaid : Prop := mulRingRow.holds Try.pinned (OpenSpec.ofChange mulRingSpec)

/-- ITS FALSE NEIGHBOUR: 'it returns false'. Refute it at one input. -/
def mulRingWrong : ChangeSpec := { name := "mulRing", fn := fun _ => fun
  | [d1, d2, d3] => { results := [.lit (.bool false)], args := [d1, d2, d3] }
  | _ => none }
def MulRingWrongFalsely : Prop := mulRingRow.holds Try.pinned (OpenSpec.ofChange mulRingWrong)

/-- 'surdlaw03.MulProducts': WHATEVER THE INPUT: true; the input reads as it did. -/
def mulProductsSpec : ChangeSpec := { name := "mulProducts", fn := fun _ => fun
  | [d1, d2, d3] => { results := [.lit (.bool true)], args := [d1, d2, d3] }
  | _ => none }
def mulProductsRow : OpenClaim := { program := "ytgiecdokjmcogaa", sum := "1b9724ffbe6eff478f319d7bd2cd18e14f54f95803683161b40cccddcf367aa5", func := "surd/surdlaw03.MulProducts", spec := "mulProducts", inPlace := ["math/bits.Add64", "math/bits.Sub64"], recurses := true, apart := false }
def MulProductsSaid : Prop := mulProductsRow.holds Try.pinned (OpenSpec.ofChange mulProductsSpec)

/-- ITS FALSE NEIGHBOUR: 'it returns false'. Refute it at one input. -/
def mulProductsWrong : ChangeSpec := { name := "mulProducts", fn := fun _ => fun
  | [d1, d2, d3] => { results := [.lit (.bool false)], args := [d1, d2, d3] }
  | _ => none }
def MulProductsWrongFalsely : Prop := mulProductsRow.holds Try.pinned (OpenSpec.ofChange mulProductsWrong)

/-- 'surdlaw01.LimbShifts': WHATEVER THE INPUT: true; the input reads as it did. -/
def limbShiftsSpec : ChangeSpec := { name := "limbShifts", fn := fun _ => fun
  | [d] => { results := [.lit (.bool true)], args := [d] }
  | _ => none }
def limbShiftsRow : OpenClaim := { program := "ytgiecdokjmcogaa", sum := "1b9724ffbe6eff478f319d7bd2cd18e14f54f95803683161b40cccddcf367aa5", func := "surd/surdlaw01.LimbShifts", spec := "limbShifts", inPlace := ["math/bits.Add64"], named := ["math/bits.divideError", "math/bits.overflowError"], apart := false }
def LimbShiftsSaid : Prop := limbShiftsRow.holds Try.pinned (OpenSpec.ofChange limbShiftsSpec)

/-- ITS FALSE NEIGHBOUR: 'it returns false'. Refute it at one input. -/
def limbShiftsWrong : ChangeSpec := { name := "limbShifts", fn := fun _ => fun
  | [d] => { results := [.lit (.bool false)], args := [d] }
  | _ => none }
def LimbShiftsWrongFalsely : Prop := limbShiftsRow.holds Try.pinned (OpenSpec.ofChange limbShiftsWrong)

/-- 'surdlaw03.MulLists': WHATEVER THE INPUT: true; the input reads as it did. -/
def mulListsSpec : ChangeSpec := { name := "mulLists", fn := fun _ => fun
  | [d1, d2] => { results := [.lit (.bool true)], args := [d1, d2] }
  | _ => none }
def mulListsRow : OpenClaim := { program := "ytgiecdokjmcogaa", sum := "1b9724ffbe6eff478f319d7bd2cd18e14f54f95803683161b40cccddcf367aa5", func := "surd/surdlaw03.MulLists", spec := "mulLists", inPlace := ["math/bits.Add64", "math/bits.Sub64"], recurses := true, apart := false }
def MulListsSaid : Prop := mulListsRow.holds Try.pinned (OpenSpec.ofChange mulListsSpec)

/-- ITS FALSE NEIGHBOUR: 'it returns false'. Refute it at one input. -/
def mulListsWrong : ChangeSpec := { name := "mulLists", fn := fun _ => fun
  | [d1, d2] => { results := [.lit (.bool false)], args := [d1, d2] }
  | _ => none }
def MulListsWrongFalsely : Prop := mulListsRow.holds Try.pinned (OpenSpec.ofChange mulListsWrong)

/-- 'surdlaw03.MulExponents': WHATEVER THE INPUT: true; the input reads as it did. -/
def mulExponentsSpec : ChangeSpec := { name := "mulExponents", fn := fun _ => fun
  | [d1, d2, d3] => { results := [.lit (.bool true)], args := [d1, d2, d3] }
  | _ => none }
def mulExponentsRow : OpenClaim := { program := "ytgiecdokjmcogaa", sum := "1b9724ffbe6eff478f319d7bd2cd18e14f54f95803683161b40cccddcf367aa5", func := "surd/surdlaw03.MulExponents", spec := "mulExponents", inPlace := ["math/bits.Add64", "math/bits.Sub64"], recurses := true, apart := false }
def MulExponentsSaid : Prop := mulExponentsRow.holds Try.pinned (OpenSpec.ofChange mulExponentsSpec)

/-- ITS FALSE NEIGHBOUR: 'it returns false'. Refute it at one input. -/
def mulExponentsWrong : ChangeSpec := { name := "mulExponents", fn := fun _ => fun
  | [d1, d2, d3] => { results := [.lit (.bool false)], args := [d1, d2, d3] }
  | _ => none }
def MulExponentsWrongFalsely : Prop := mulExponentsRow.holds Try.pinned (OpenSpec.ofChange mulExponentsWrong)

/-- 'surdlaw01.LimbWords': WHATEVER THE INPUT: true; the input reads as it did. -/
def limbWordsSpec : ChangeSpec := { name := "limbWords", fn := fun _ => fun
  | [d] => { results := [.lit (.bool true)], args := [d] }
  | _ => none }
def limbWordsRow : OpenClaim := { program := "ytgiecdokjmcogaa", sum := "1b9724ffbe6eff478f319d7bd2cd18e14f54f95803683161b40cccddcf367aa5", func := "surd/surdlaw01.LimbWords", spec := "limbWords", inPlace := ["math/bits.Add64", "math/bits.Sub64"], named := ["math/bits.divideError", "math/bits.overflowError"], apart := false }
def LimbWordsSaid : Prop := limbWordsRow.holds Try.pinned (OpenSpec.ofChange limbWordsSpec)

/-- ITS FALSE NEIGHBOUR: 'it returns false'. Refute it at one input. -/
def limbWordsWrong : ChangeSpec := { name := "limbWords", fn := fun _ => fun
  | [d] => { results := [.lit (.bool false)], args := [d] }
  | _ => none }
def LimbWordsWrongFalsely : Prop := limbWordsRow.holds Try.pinned (OpenSpec.ofChange limbWordsWrong)

/-- 'surdlaw03.MulPowers': WHATEVER THE INPUT: true; the input reads as it did. -/
def mulPowersSpec : ChangeSpec := { name := "mulPowers", fn := fun _ => fun
  | [d1, d2, d3] => { results := [.lit (.bool true)], args := [d1, d2, d3] }
  | _ => none }
def mulPowersRow : OpenClaim := { program := "ytgiecdokjmcogaa", sum := "1b9724ffbe6eff478f319d7bd2cd18e14f54f95803683161b40cccddcf367aa5", func := "surd/surdlaw03.MulPowers", spec := "mulPowers", inPlace := ["math/bits.Add64", "math/bits.Sub64"], recurses := true, apart := false }
def MulPowersSaid : Prop := mulPowersRow.holds Try.pinned (OpenSpec.ofChange mulPowersSpec)

/-- ITS FALSE NEIGHBOUR: 'it returns false'. Refute it at one input. -/
def mulPowersWrong : ChangeSpec := { name := "mulPowers", fn := fun _ => fun
  | [d1, d2, d3] => { results := [.lit (.bool false)], args := [d1, d2, d3] }
  | _ => none }
def MulPowersWrongFalsely : Prop := mulPowersRow.holds Try.pinned (OpenSpec.ofChange mulPowersWrong)

/-- 'surdlaw03.MulRows': WHATEVER THE INPUT: true; the input reads as it did. -/
def mulRowsSpec : ChangeSpec := { name := "mulRows", fn := fun _ => fun
  | [d1, d2] => { results := [.lit (.bool true)], args := [d1, d2] }
  | _ => none }
def mulRowsRow : OpenClaim := { program := "ytgiecdokjmcogaa", sum := "1b9724ffbe6eff478f319d7bd2cd18e14f54f95803683161b40cccddcf367aa5", func := "surd/surdlaw03.MulRows", spec := "mulRows", inPlace := ["math/bits.Add64"], named := ["math/bits.divideError", "math/bits.overflowError"], apart := false }
def MulRowsSaid : Prop := mulRowsRow.holds Try.pinned (OpenSpec.ofChange mulRowsSpec)

/-- ITS FALSE NEIGHBOUR: 'it returns false'. Refute it at one input. -/
def mulRowsWrong : ChangeSpec := { name := "mulRows", fn := fun _ => fun
  | [d1, d2] => { results := [.lit (.bool false)], args := [d1, d2] }
  | _ => none }
def MulRowsWrongFalsely : Prop := mulRowsRow.holds Try.pinned (OpenSpec.ofChange mulRowsWrong)

/-- 'surdtop.SurdCarries': WHATEVER THE INPUT: true; the input reads as it did. -/
def surdCarriesSpec : ChangeSpec := { name := "surdCarries", fn := fun _ => fun
  | [d1, d2, d3] => { results := [.lit (.bool true)], args := [d1, d2, d3] }
  | _ => none }
def surdCarriesRow : OpenClaim := { program := "ytgiecdokjmcogaa", sum := "1b9724ffbe6eff478f319d7bd2cd18e14f54f95803683161b40cccddcf367aa5", func := "surd/surdtop.SurdCarries", spec := "surdCarries", inPlace := ["math/bits.Add64", "math/bits.Sub64"], apart := false }
def SurdCarriesSaid : Prop := surdCarriesRow.holds Try.pinned (OpenSpec.ofChange surdCarriesSpec)

/-- ITS FALSE NEIGHBOUR: 'it returns false'. Refute it at one input. -/
def surdCarriesWrong : ChangeSpec := { name := "surdCarries", fn := fun _ => fun
  | [d1, d2, d3] => { results := [.lit (.bool false)], args := [d1, d2, d3] }
  | _ => none }
def SurdCarriesWrongFalsely : Prop := surdCarriesRow.holds Try.pinned (OpenSpec.ofChange surdCarriesWrong)

/-- 'surdlaw01.LimbSums': WHATEVER THE INPUT: true; the input reads as it did. -/
def limbSumsSpec : ChangeSpec := { name := "limbSums", fn := fun _ => fun
  | [d] => { results := [.lit (.bool true)], args := [d] }
  | _ => none }
def limbSumsRow : OpenClaim := { program := "ytgiecdokjmcogaa", sum := "1b9724ffbe6eff478f319d7bd2cd18e14f54f95803683161b40cccddcf367aa5", func := "surd/surdlaw01.LimbSums", spec := "limbSums", inPlace := ["math/bits.Add64", "math/bits.Sub64"], named := ["math/bits.divideError", "math/bits.overflowError"], apart := false }
def LimbSumsSaid : Prop := limbSumsRow.holds Try.pinned (OpenSpec.ofChange limbSumsSpec)

/-- ITS FALSE NEIGHBOUR: 'it returns false'. Refute it at one input. -/
def limbSumsWrong : ChangeSpec := { name := "limbSums", fn := fun _ => fun
  | [d] => { results := [.lit (.bool false)], args := [d] }
  | _ => none }
def LimbSumsWrongFalsely : Prop := limbSumsRow.holds Try.pinned (OpenSpec.ofChange limbSumsWrong)

/- THE SECOND FORM. 'bulk': how many values and letters a reading holds, each counted each time it is reached (what is shared counts as often as it is met; a slice's spare places count too). A statement '..UptoSaid' is the law's where the arguments, and the package variables that the reading takes, are together of bulk at most 1048576: NARROWER than '..Said'. Prove '..Said' where nothing that the law and all that it calls make is longer than what came in: it says more and counts as full. Else prove '..UptoSaid'. A law counts once. -/
mutual
def uptoBulk {H : Type} : DataW H → Nat
  | .lit (.string bytes) => bytes.length + 1
  | .lit _ => 1
  | .nil => 1
  | .ptr d => uptoBulk d + 1
  | .slice elems spare => uptoBulkAll elems + uptoBulkAll spare + 1
  | .agg parts => uptoBulkAll parts + 1
  | .iface _ d => uptoBulk d + 1
  | .map entries => uptoBulkEntries entries + 1
  | .held _ => 1
def uptoBulkAll {H : Type} : List (DataW H) → Nat
  | [] => 0
  | d :: r => uptoBulk d + uptoBulkAll r
def uptoBulkEntries {H : Type} : List (Lit × DataW H) → Nat
  | [] => 0
  | x :: r => uptoBulkEntry x + uptoBulkEntries r
def uptoBulkEntry {H : Type} : Lit × DataW H → Nat
  | (.string bytes, d) => bytes.length + uptoBulk d + 1
  | (_, d) => uptoBulk d + 1
 end
def uptoSmall : (H : Type) → List (DataW H) → Bool := fun _ ds => decide (uptoBulkAll ds ≤ 1048576)
def OpenSpec.upto (s : _root_.Go.ChangeSpec) : _root_.Go.OpenSpec := { _root_.Go.OpenSpec.ofChange s with cond := some uptoSmall }

/-- 'surdlaw03.MulRing', WHERE WHAT IT READS IS OF BULK AT MOST 1048576: true; the input reads as it did. -/
def mulRingUptoRow : OpenClaim := { program := "ytgiecdokjmcogaa", sum := "1b9724ffbe6eff478f319d7bd2cd18e14f54f95803683161b40cccddcf367aa5", func := "surd/surdlaw03.MulRing", spec := "mulRing", inPlace := ["math/bits.Add64", "math/bits.Sub64"], recurses := true, apart := false, narrowed := true }
def MulRingUptoSaid : Prop := mulRingUptoRow.holds Try.pinned (OpenSpec.upto mulRingSpec)

/-- 'surdlaw03.MulProducts', WHERE WHAT IT READS IS OF BULK AT MOST 1048576: true; the input reads as it did. -/
def mulProductsUptoRow : OpenClaim := { program := "ytgiecdokjmcogaa", sum := "1b9724ffbe6eff478f319d7bd2cd18e14f54f95803683161b40cccddcf367aa5", func := "surd/surdlaw03.MulProducts", spec := "mulProducts", inPlace := ["math/bits.Add64", "math/bits.Sub64"], recurses := true, apart := false, narrowed := true }
def MulProductsUptoSaid : Prop := mulProductsUptoRow.holds Try.pinned (OpenSpec.upto mulProductsSpec)

/-- 'surdlaw01.LimbShifts', WHERE WHAT IT READS IS OF BULK AT MOST 1048576: true; the input reads as it did. -/
def limbShiftsUptoRow : OpenClaim := { program := "ytgiecdokjmcogaa", sum := "1b9724ffbe6eff478f319d7bd2cd18e14f54f95803683161b40cccddcf367aa5", func := "surd/surdlaw01.LimbShifts", spec := "limbShifts", inPlace := ["math/bits.Add64"], named := ["math/bits.divideError", "math/bits.overflowError"], apart := false, narrowed := true }
def LimbShiftsUptoSaid : Prop := limbShiftsUptoRow.holds Try.pinned (OpenSpec.upto limbShiftsSpec)

/-- 'surdlaw03.MulLists', WHERE WHAT IT READS IS OF BULK AT MOST 1048576: true; the input reads as it did. -/
def mulListsUptoRow : OpenClaim := { program := "ytgiecdokjmcogaa", sum := "1b9724ffbe6eff478f319d7bd2cd18e14f54f95803683161b40cccddcf367aa5", func := "surd/surdlaw03.MulLists", spec := "mulLists", inPlace := ["math/bits.Add64", "math/bits.Sub64"], recurses := true, apart := false, narrowed := true }
def MulListsUptoSaid : Prop := mulListsUptoRow.holds Try.pinned (OpenSpec.upto mulListsSpec)

/-- 'surdlaw03.MulExponents', WHERE WHAT IT READS IS OF BULK AT MOST 1048576: true; the input reads as it did. -/
def mulExponentsUptoRow : OpenClaim := { program := "ytgiecdokjmcogaa", sum := "1b9724ffbe6eff478f319d7bd2cd18e14f54f95803683161b40cccddcf367aa5", func := "surd/surdlaw03.MulExponents", spec := "mulExponents", inPlace := ["math/bits.Add64", "math/bits.Sub64"], recurses := true, apart := false, narrowed := true }
def MulExponentsUptoSaid : Prop := mulExponentsUptoRow.holds Try.pinned (OpenSpec.upto mulExponentsSpec)

/-- 'surdlaw01.LimbWords', WHERE WHAT IT READS IS OF BULK AT MOST 1048576: true; the input reads as it did. -/
def limbWordsUptoRow : OpenClaim := { program := "ytgiecdokjmcogaa", sum := "1b9724ffbe6eff478f319d7bd2cd18e14f54f95803683161b40cccddcf367aa5", func := "surd/surdlaw01.LimbWords", spec := "limbWords", inPlace := ["math/bits.Add64", "math/bits.Sub64"], named := ["math/bits.divideError", "math/bits.overflowError"], apart := false, narrowed := true }
def LimbWordsUptoSaid : Prop := limbWordsUptoRow.holds Try.pinned (OpenSpec.upto limbWordsSpec)

/-- 'surdlaw03.MulPowers', WHERE WHAT IT READS IS OF BULK AT MOST 1048576: true; the input reads as it did. -/
def mulPowersUptoRow : OpenClaim := { program := "ytgiecdokjmcogaa", sum := "1b9724ffbe6eff478f319d7bd2cd18e14f54f95803683161b40cccddcf367aa5", func := "surd/surdlaw03.MulPowers", spec := "mulPowers", inPlace := ["math/bits.Add64", "math/bits.Sub64"], recurses := true, apart := false, narrowed := true }
def MulPowersUptoSaid : Prop := mulPowersUptoRow.holds Try.pinned (OpenSpec.upto mulPowersSpec)

/-- 'surdlaw03.MulRows', WHERE WHAT IT READS IS OF BULK AT MOST 1048576: true; the input reads as it did. -/
def mulRowsUptoRow : OpenClaim := { program := "ytgiecdokjmcogaa", sum := "1b9724ffbe6eff478f319d7bd2cd18e14f54f95803683161b40cccddcf367aa5", func := "surd/surdlaw03.MulRows", spec := "mulRows", inPlace := ["math/bits.Add64"], named := ["math/bits.divideError", "math/bits.overflowError"], apart := false, narrowed := true }
def MulRowsUptoSaid : Prop := mulRowsUptoRow.holds Try.pinned (OpenSpec.upto mulRowsSpec)

/-- 'surdtop.SurdCarries', WHERE WHAT IT READS IS OF BULK AT MOST 1048576: true; the input reads as it did. -/
def surdCarriesUptoRow : OpenClaim := { program := "ytgiecdokjmcogaa", sum := "1b9724ffbe6eff478f319d7bd2cd18e14f54f95803683161b40cccddcf367aa5", func := "surd/surdtop.SurdCarries", spec := "surdCarries", inPlace := ["math/bits.Add64", "math/bits.Sub64"], apart := false, narrowed := true }
def SurdCarriesUptoSaid : Prop := surdCarriesUptoRow.holds Try.pinned (OpenSpec.upto surdCarriesSpec)

/-- 'surdlaw01.LimbSums', WHERE WHAT IT READS IS OF BULK AT MOST 1048576: true; the input reads as it did. -/
def limbSumsUptoRow : OpenClaim := { program := "ytgiecdokjmcogaa", sum := "1b9724ffbe6eff478f319d7bd2cd18e14f54f95803683161b40cccddcf367aa5", func := "surd/surdlaw01.LimbSums", spec := "limbSums", inPlace := ["math/bits.Add64", "math/bits.Sub64"], named := ["math/bits.divideError", "math/bits.overflowError"], apart := false, narrowed := true }
def LimbSumsUptoSaid : Prop := limbSumsUptoRow.holds Try.pinned (OpenSpec.upto limbSumsSpec)

end Rows
end Go.Proofs.Ytgiecdokjmcogaa
