/-
  DERIVED. GIVEN WITH THE SEED: THE CARDS: each row of YtnmfmdilhepmjaaDoorRows.lean that lists a variable, with what it lists TIED to the program's text (the seventh form; the later family's looks); each row that meets fmt, with fmt's text TOLD by the authors' own Lean function (tested against real Go, not proved from fmt's source: count such statements apart). THE CARD IS WHAT COUNTS. Prove the row's statement (the work); the ties are given (YtnmfmdilhepmjaaDoorTie.lean); close each card by the builder's one call (the guide's Derived/Test/ToyasCard.lean, 'card_holds'). Laid BY PROGRAM, IN A SANDBOX (cutbox-door.mjs). By AI agents, Wed Nov 11 2026. No macro, syntax, notation, axiom, sorry.
-/
import Derived.Test.YtnmfmdilhepmjaaDoorRows
import GoSem.ClaimSeven
namespace Go.Proofs.YtnmfmdilhepmjaaDoor
namespace Rows

/-- THE TIED CARD OF 'surdtop.SurdTexts'. -/
def surdTextsCard : Claim7 := { stood := { row := surdTextsRow, standIns := [], harness := (true, "43480f3136c917ac1a2a03972104b0b7fc17786330137a4975f723ad544b8f68"), looks := false }, kinds := [], alts := [], laidByText := true, laidKinds := [.widerDeep], laidTests := true, laidLooks := .later }
def SurdTextsCardSaid : Prop := Claim7.holds Tryd.pinned (.plain (OpenSpec.ofChange surdTextsSpec)) surdTextsCard

/-- THE TIED CARD OF 'surdlaw06.RadixReads'. -/
def radixReadsCard : Claim7 := { stood := { row := radixReadsRow, standIns := [], harness := (true, "43480f3136c917ac1a2a03972104b0b7fc17786330137a4975f723ad544b8f68"), looks := false }, kinds := [], alts := [], laidByText := true, laidKinds := [.widerDeep], laidTests := true, laidLooks := .later }
def RadixReadsCardSaid : Prop := Claim7.holds Tryd.pinned (.plain (OpenSpec.ofChange radixReadsSpec)) radixReadsCard

/-- THE TIED CARD OF 'surdlaw06.RadixBases'. -/
def radixBasesCard : Claim7 := { stood := { row := radixBasesRow, standIns := [], harness := (true, "43480f3136c917ac1a2a03972104b0b7fc17786330137a4975f723ad544b8f68"), looks := false }, kinds := [], alts := [], laidByText := true, laidKinds := [.widerDeep], laidTests := true, laidLooks := .later }
def RadixBasesCardSaid : Prop := Claim7.holds Tryd.pinned (.plain (OpenSpec.ofChange radixBasesSpec)) radixBasesCard

/-- THE TIED CARD OF 'surdlaw06.RadixThere'. -/
def radixThereCard : Claim7 := { stood := { row := radixThereRow, standIns := [], harness := (true, "43480f3136c917ac1a2a03972104b0b7fc17786330137a4975f723ad544b8f68"), looks := false }, kinds := [], alts := [], laidByText := true, laidKinds := [.widerDeep], laidTests := true, laidLooks := .later }
def RadixThereCardSaid : Prop := Claim7.holds Tryd.pinned (.plain (OpenSpec.ofChange radixThereSpec)) radixThereCard

/-- THE TIED CARD OF 'surdlaw06.RadixHorner'. -/
def radixHornerCard : Claim7 := { stood := { row := radixHornerRow, standIns := [], harness := (true, "43480f3136c917ac1a2a03972104b0b7fc17786330137a4975f723ad544b8f68"), looks := false }, kinds := [], alts := [], laidByText := true, laidKinds := [.widerDeep], laidTests := true, laidLooks := .later }
def RadixHornerCardSaid : Prop := Claim7.holds Tryd.pinned (.plain (OpenSpec.ofChange radixHornerSpec)) radixHornerCard

/-- THE TIED CARD OF 'surdlaw06.RadixTens'. -/
def radixTensCard : Claim7 := { stood := { row := radixTensRow, standIns := [], harness := (true, "43480f3136c917ac1a2a03972104b0b7fc17786330137a4975f723ad544b8f68"), looks := false }, kinds := [], alts := [], laidByText := true, laidKinds := [.widerDeep], laidTests := true, laidLooks := .later }
def RadixTensCardSaid : Prop := Claim7.holds Tryd.pinned (.plain (OpenSpec.ofChange radixTensSpec)) radixTensCard

/-- THE TIED CARD OF 'surdlaw06.RadixPoints'. -/
def radixPointsCard : Claim7 := { stood := { row := radixPointsRow, standIns := [], harness := (true, "43480f3136c917ac1a2a03972104b0b7fc17786330137a4975f723ad544b8f68"), looks := false }, kinds := [], alts := [], laidByText := true, laidKinds := [.widerDeep], laidTests := true, laidLooks := .later }
def RadixPointsCardSaid : Prop := Claim7.holds Tryd.pinned (.plain (OpenSpec.ofChange radixPointsSpec)) radixPointsCard

/-- THE TIED CARD OF 'surdlaw06.RadixCuts'. -/
def radixCutsCard : Claim7 := { stood := { row := radixCutsRow, standIns := [], harness := (true, "43480f3136c917ac1a2a03972104b0b7fc17786330137a4975f723ad544b8f68"), looks := false }, kinds := [], alts := [], laidByText := true, laidKinds := [.widerDeep], laidTests := true, laidLooks := .later }
def RadixCutsCardSaid : Prop := Claim7.holds Tryd.pinned (.plain (OpenSpec.ofChange radixCutsSpec)) radixCutsCard

/-- THE SECOND FORM's CARD OF 'surdtop.SurdTexts'. -/
def surdTextsUptoCard : Claim7 := { stood := { row := surdTextsUptoRow, standIns := [], harness := (true, "43480f3136c917ac1a2a03972104b0b7fc17786330137a4975f723ad544b8f68"), looks := false }, kinds := [], alts := [], laidByText := true, laidKinds := [.widerDeep], laidTests := true, laidLooks := .later }
def SurdTextsUptoCardSaid : Prop := Claim7.holds Tryd.pinned (.plain (OpenSpec.upto surdTextsSpec)) surdTextsUptoCard

/-- THE SECOND FORM's CARD OF 'surdlaw06.RadixReads'. -/
def radixReadsUptoCard : Claim7 := { stood := { row := radixReadsUptoRow, standIns := [], harness := (true, "43480f3136c917ac1a2a03972104b0b7fc17786330137a4975f723ad544b8f68"), looks := false }, kinds := [], alts := [], laidByText := true, laidKinds := [.widerDeep], laidTests := true, laidLooks := .later }
def RadixReadsUptoCardSaid : Prop := Claim7.holds Tryd.pinned (.plain (OpenSpec.upto radixReadsSpec)) radixReadsUptoCard

/-- THE SECOND FORM's CARD OF 'surdlaw06.RadixBases'. -/
def radixBasesUptoCard : Claim7 := { stood := { row := radixBasesUptoRow, standIns := [], harness := (true, "43480f3136c917ac1a2a03972104b0b7fc17786330137a4975f723ad544b8f68"), looks := false }, kinds := [], alts := [], laidByText := true, laidKinds := [.widerDeep], laidTests := true, laidLooks := .later }
def RadixBasesUptoCardSaid : Prop := Claim7.holds Tryd.pinned (.plain (OpenSpec.upto radixBasesSpec)) radixBasesUptoCard

/-- THE SECOND FORM's CARD OF 'surdlaw06.RadixThere'. -/
def radixThereUptoCard : Claim7 := { stood := { row := radixThereUptoRow, standIns := [], harness := (true, "43480f3136c917ac1a2a03972104b0b7fc17786330137a4975f723ad544b8f68"), looks := false }, kinds := [], alts := [], laidByText := true, laidKinds := [.widerDeep], laidTests := true, laidLooks := .later }
def RadixThereUptoCardSaid : Prop := Claim7.holds Tryd.pinned (.plain (OpenSpec.upto radixThereSpec)) radixThereUptoCard

/-- THE SECOND FORM's CARD OF 'surdlaw06.RadixHorner'. -/
def radixHornerUptoCard : Claim7 := { stood := { row := radixHornerUptoRow, standIns := [], harness := (true, "43480f3136c917ac1a2a03972104b0b7fc17786330137a4975f723ad544b8f68"), looks := false }, kinds := [], alts := [], laidByText := true, laidKinds := [.widerDeep], laidTests := true, laidLooks := .later }
def RadixHornerUptoCardSaid : Prop := Claim7.holds Tryd.pinned (.plain (OpenSpec.upto radixHornerSpec)) radixHornerUptoCard

/-- THE SECOND FORM's CARD OF 'surdlaw06.RadixTens'. -/
def radixTensUptoCard : Claim7 := { stood := { row := radixTensUptoRow, standIns := [], harness := (true, "43480f3136c917ac1a2a03972104b0b7fc17786330137a4975f723ad544b8f68"), looks := false }, kinds := [], alts := [], laidByText := true, laidKinds := [.widerDeep], laidTests := true, laidLooks := .later }
def RadixTensUptoCardSaid : Prop := Claim7.holds Tryd.pinned (.plain (OpenSpec.upto radixTensSpec)) radixTensUptoCard

/-- THE SECOND FORM's CARD OF 'surdlaw06.RadixPoints'. -/
def radixPointsUptoCard : Claim7 := { stood := { row := radixPointsUptoRow, standIns := [], harness := (true, "43480f3136c917ac1a2a03972104b0b7fc17786330137a4975f723ad544b8f68"), looks := false }, kinds := [], alts := [], laidByText := true, laidKinds := [.widerDeep], laidTests := true, laidLooks := .later }
def RadixPointsUptoCardSaid : Prop := Claim7.holds Tryd.pinned (.plain (OpenSpec.upto radixPointsSpec)) radixPointsUptoCard

/-- THE SECOND FORM's CARD OF 'surdlaw06.RadixCuts'. -/
def radixCutsUptoCard : Claim7 := { stood := { row := radixCutsUptoRow, standIns := [], harness := (true, "43480f3136c917ac1a2a03972104b0b7fc17786330137a4975f723ad544b8f68"), looks := false }, kinds := [], alts := [], laidByText := true, laidKinds := [.widerDeep], laidTests := true, laidLooks := .later }
def RadixCutsUptoCardSaid : Prop := Claim7.holds Tryd.pinned (.plain (OpenSpec.upto radixCutsSpec)) radixCutsUptoCard
end Rows
end Go.Proofs.YtnmfmdilhepmjaaDoor
