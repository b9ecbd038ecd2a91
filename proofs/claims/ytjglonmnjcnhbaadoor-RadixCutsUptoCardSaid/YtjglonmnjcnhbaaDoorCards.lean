/-
  DERIVED. GIVEN WITH THE SEED: THE CARDS: each row of YtjglonmnjcnhbaaDoorRows.lean that lists a variable, with what it lists TIED to the program's text (the seventh form; the later family's looks); each row that meets fmt, with fmt's text TOLD by the authors' own Lean function (tested against real Go, not proved from fmt's source: count such statements apart). THE CARD IS WHAT COUNTS. Prove the row's statement (the work); the ties are given (YtjglonmnjcnhbaaDoorTie.lean); close each card by the builder's one call (the guide's Derived/Test/ToyasCard.lean, 'card_holds'). Laid BY PROGRAM, IN A SANDBOX (cutbox-door.mjs). By AI agents, Wed Nov 11 2026. No macro, syntax, notation, axiom, sorry.
-/
import Derived.Test.YtjglonmnjcnhbaaDoorRows
import GoSem.ClaimSeven
namespace Go.Proofs.YtjglonmnjcnhbaaDoor
namespace Rows

/-- THE TIED CARD OF 'surdlaw06.RadixPoints'. -/
def radixPointsCard : Claim7 := { stood := { row := radixPointsRow, standIns := [], harness := (true, "c8cd92155aee7b372b51875f40a8c353d136094d0634de39824a377fb2079afd"), looks := false }, kinds := [], alts := [], laidByText := true, laidKinds := [.widerDeep], laidTests := true, laidLooks := .later }
def RadixPointsCardSaid : Prop := Claim7.holds Tryd.pinned (.plain (OpenSpec.ofChange radixPointsSpec)) radixPointsCard

/-- THE TIED CARD OF 'surdlaw06.RadixCuts'. -/
def radixCutsCard : Claim7 := { stood := { row := radixCutsRow, standIns := [], harness := (true, "c8cd92155aee7b372b51875f40a8c353d136094d0634de39824a377fb2079afd"), looks := false }, kinds := [], alts := [], laidByText := true, laidKinds := [.widerDeep], laidTests := true, laidLooks := .later }
def RadixCutsCardSaid : Prop := Claim7.holds Tryd.pinned (.plain (OpenSpec.ofChange radixCutsSpec)) radixCutsCard

/-- THE TIED CARD OF 'surdtop.SurdTexts'. -/
def surdTextsCard : Claim7 := { stood := { row := surdTextsRow, standIns := [], harness := (true, "c8cd92155aee7b372b51875f40a8c353d136094d0634de39824a377fb2079afd"), looks := false }, kinds := [], alts := [], laidByText := true, laidKinds := [.widerDeep], laidTests := true, laidLooks := .later }
def SurdTextsCardSaid : Prop := Claim7.holds Tryd.pinned (.plain (OpenSpec.ofChange surdTextsSpec)) surdTextsCard

/-- THE SECOND FORM's CARD OF 'surdlaw06.RadixPoints'. -/
def radixPointsUptoCard : Claim7 := { stood := { row := radixPointsUptoRow, standIns := [], harness := (true, "c8cd92155aee7b372b51875f40a8c353d136094d0634de39824a377fb2079afd"), looks := false }, kinds := [], alts := [], laidByText := true, laidKinds := [.widerDeep], laidTests := true, laidLooks := .later }
def RadixPointsUptoCardSaid : Prop := Claim7.holds Tryd.pinned (.plain (OpenSpec.upto radixPointsSpec)) radixPointsUptoCard

/-- THE SECOND FORM's CARD OF 'surdlaw06.RadixCuts'. -/
def radixCutsUptoCard : Claim7 := { stood := { row := radixCutsUptoRow, standIns := [], harness := (true, "c8cd92155aee7b372b51875f40a8c353d136094d0634de39824a377fb2079afd"), looks := false }, kinds := [], alts := [], laidByText := true, laidKinds := [.widerDeep], laidTests := true, laidLooks := .later }
def RadixCutsUptoCardSaid : Prop := Claim7.holds Tryd.pinned (.plain (OpenSpec.upto radixCutsSpec)) radixCutsUptoCard

/-- THE SECOND FORM's CARD OF 'surdtop.SurdTexts'. -/
def surdTextsUptoCard : Claim7 := { stood := { row := surdTextsUptoRow, standIns := [], harness := (true, "c8cd92155aee7b372b51875f40a8c353d136094d0634de39824a377fb2079afd"), looks := false }, kinds := [], alts := [], laidByText := true, laidKinds := [.widerDeep], laidTests := true, laidLooks := .later }
def SurdTextsUptoCardSaid : Prop := Claim7.holds Tryd.pinned (.plain (OpenSpec.upto surdTextsSpec)) surdTextsUptoCard
end Rows
end Go.Proofs.YtjglonmnjcnhbaaDoor
