/-
  DERIVED. GIVEN WITH THE SEED: THE CARDS: each row of YtajoafcondgelaaGreatDoorRows.lean that lists a variable, with what it lists TIED to the program's text (the seventh form; the later family's looks); each row that meets fmt, with fmt's text TOLD by the authors' own Lean function (tested against real Go, not proved from fmt's source: count such statements apart). THE CARD IS WHAT COUNTS. Prove the row's statement (the work); the ties are given (YtajoafcondgelaaGreatDoorTie.lean); close each card by the builder's one call (the guide's Derived/Test/ToyasCard.lean, 'card_holds'). Laid BY PROGRAM, IN A SANDBOX (cutbox-door.mjs). By AI agents, Wed Nov 11 2026. No macro, syntax, notation, axiom, sorry.
-/
import Derived.Test.YtajoafcondgelaaGreatDoorRows
import GoSem.ClaimSeven
namespace Go.Proofs.YtajoafcondgelaaGreatDoor
namespace Rows

/-- THE TIED CARD OF 'surdlaw06.RadixKeeps'. -/
def radixKeepsCard : Claim7 := { stood := { row := radixKeepsRow, standIns := [], harness := (true, "f57d19491119ec99171dadafc5ae400f863d520642a1d949f13e79c038b3f022"), looks := false }, kinds := [], alts := [], laidByText := true, laidKinds := [.widerDeep], laidTests := true, laidLooks := .later }
def RadixKeepsCardSaid : Prop := Claim7.holds Tryz.pinned (.plain (OpenSpec.ofChange radixKeepsSpec)) radixKeepsCard

/-- THE SECOND FORM's CARD OF 'surdlaw06.RadixKeeps'. -/
def radixKeepsUptoCard : Claim7 := { stood := { row := radixKeepsUptoRow, standIns := [], harness := (true, "f57d19491119ec99171dadafc5ae400f863d520642a1d949f13e79c038b3f022"), looks := false }, kinds := [], alts := [], laidByText := true, laidKinds := [.widerDeep], laidTests := true, laidLooks := .later }
def RadixKeepsUptoCardSaid : Prop := Claim7.holds Tryz.pinned (.plain (OpenSpec.upto radixKeepsSpec)) radixKeepsUptoCard
end Rows
end Go.Proofs.YtajoafcondgelaaGreatDoor
