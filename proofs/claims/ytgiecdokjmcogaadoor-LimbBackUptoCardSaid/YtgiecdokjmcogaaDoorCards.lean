/-
  DERIVED. GIVEN WITH THE SEED: THE CARDS: each row of YtgiecdokjmcogaaDoorRows.lean that lists a variable, with what it lists TIED to the program's text (the seventh form; the later family's looks); each row that meets fmt, with fmt's text TOLD by the authors' own Lean function (tested against real Go, not proved from fmt's source: count such statements apart). THE CARD IS WHAT COUNTS. Prove the row's statement (the work); the ties are given (YtgiecdokjmcogaaDoorTie.lean); close each card by the builder's one call (the guide's Derived/Test/ToyasCard.lean, 'card_holds'). Laid BY PROGRAM, IN A SANDBOX (cutbox-door.mjs). By AI agents, Wed Nov 11 2026. No macro, syntax, notation, axiom, sorry.
-/
import Derived.Test.YtgiecdokjmcogaaDoorRows
import GoSem.ClaimSeven
namespace Go.Proofs.YtgiecdokjmcogaaDoor
namespace Rows

/-- THE TIED CARD OF 'surdlaw01.LimbLooks'. -/
def limbLooksCard : Claim7 := { stood := { row := limbLooksRow, standIns := [], harness := (true, "798a146de354528e6ad26718981c840e03533f613b78438a3fcbe877eeba5eae"), looks := false }, kinds := [], alts := [], laidByText := true, laidKinds := [.data], laidTests := true, laidLooks := .later }
def LimbLooksCardSaid : Prop := Claim7.holds Tryd.pinned (.plain (OpenSpec.ofChange limbLooksSpec)) limbLooksCard

/-- THE TIED CARD OF 'surdlaw01.LimbBack'. -/
def limbBackCard : Claim7 := { stood := { row := limbBackRow, standIns := [], harness := (true, "798a146de354528e6ad26718981c840e03533f613b78438a3fcbe877eeba5eae"), looks := false }, kinds := [], alts := [], laidByText := true, laidKinds := [.data], laidTests := true, laidLooks := .later }
def LimbBackCardSaid : Prop := Claim7.holds Tryd.pinned (.plain (OpenSpec.ofChange limbBackSpec)) limbBackCard

/-- THE SECOND FORM's CARD OF 'surdlaw01.LimbLooks'. -/
def limbLooksUptoCard : Claim7 := { stood := { row := limbLooksUptoRow, standIns := [], harness := (true, "798a146de354528e6ad26718981c840e03533f613b78438a3fcbe877eeba5eae"), looks := false }, kinds := [], alts := [], laidByText := true, laidKinds := [.data], laidTests := true, laidLooks := .later }
def LimbLooksUptoCardSaid : Prop := Claim7.holds Tryd.pinned (.plain (OpenSpec.upto limbLooksSpec)) limbLooksUptoCard

/-- THE SECOND FORM's CARD OF 'surdlaw01.LimbBack'. -/
def limbBackUptoCard : Claim7 := { stood := { row := limbBackUptoRow, standIns := [], harness := (true, "798a146de354528e6ad26718981c840e03533f613b78438a3fcbe877eeba5eae"), looks := false }, kinds := [], alts := [], laidByText := true, laidKinds := [.data], laidTests := true, laidLooks := .later }
def LimbBackUptoCardSaid : Prop := Claim7.holds Tryd.pinned (.plain (OpenSpec.upto limbBackSpec)) limbBackUptoCard
end Rows
end Go.Proofs.YtgiecdokjmcogaaDoor
