/-
  DERIVED. GIVEN WITH THE SEED: THE CARDS: each row of YtfpogghlcodncaaDoorRows.lean that lists a variable, with what it lists TIED to the program's text (the seventh form; the later family's looks); each row that meets fmt, with fmt's text TOLD by the authors' own Lean function (tested against real Go, not proved from fmt's source: count such statements apart). THE CARD IS WHAT COUNTS. Prove the row's statement (the work); the ties are given (YtfpogghlcodncaaDoorTie.lean); close each card by the builder's one call (the guide's Derived/Test/ToyasCard.lean, 'card_holds'). Laid BY PROGRAM, IN A SANDBOX (cutbox-door.mjs). By AI agents, Wed Nov 11 2026. No macro, syntax, notation, axiom, sorry.
-/
import Derived.Test.YtfpogghlcodncaaDoorRows
import GoSem.ClaimSeven
namespace Go.Proofs.YtfpogghlcodncaaDoor
namespace Rows

/-- THE TIED CARD OF 'surdlaw01.LimbMemory'. -/
def limbMemoryCard : Claim7 := { stood := { row := limbMemoryRow, standIns := [], harness := (true, "bfcc5e0e9f7eba73f04942d527ae9ca522105b097732841b93ba883f5f9a67b4"), looks := false }, kinds := [], alts := [], laidByText := true, laidKinds := [.data], laidTests := true, laidLooks := .later }
def LimbMemoryCardSaid : Prop := Claim7.holds Tryd.pinned (.plain (OpenSpec.ofChange limbMemorySpec)) limbMemoryCard

/-- THE SECOND FORM's CARD OF 'surdlaw01.LimbMemory'. -/
def limbMemoryUptoCard : Claim7 := { stood := { row := limbMemoryUptoRow, standIns := [], harness := (true, "bfcc5e0e9f7eba73f04942d527ae9ca522105b097732841b93ba883f5f9a67b4"), looks := false }, kinds := [], alts := [], laidByText := true, laidKinds := [.data], laidTests := true, laidLooks := .later }
def LimbMemoryUptoCardSaid : Prop := Claim7.holds Tryd.pinned (.plain (OpenSpec.upto limbMemorySpec)) limbMemoryUptoCard
end Rows
end Go.Proofs.YtfpogghlcodncaaDoor
