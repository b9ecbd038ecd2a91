/-
  The reference of layer 1: surdref01.Trim, Cmp, Bits, Zeros, Bit. math/bits.TrailingZeros64 over its table; limb.Zeros, Bit; surdref01.Bit. Digits in a base, the lowest first; walks: div.Digits; nat.Bit, div.PowMod. Walks: nat.Bit, div.PowMod.
-/
import Derived.Test.YtamfhmmcnlollaaGreatSumX
import Derived.Test.YtamfhmmcnlollaaGreatNatB
import Derived.Lib.TrailingZeros
import Derived.Lib.LaidTab
import Derived.Test.YtamfhmmcnlollaaGreatGcd
namespace Go.Proofs.YtamfhmmcnlollaaGreat
open Go.RowKit
set_option linter.unusedVariables false
end Go.Proofs.YtamfhmmcnlollaaGreat
namespace Go.Proofs.YtamfhmmcnlollaaGreat
open Go.RowKit
set_option linter.unusedVariables false
end Go.Proofs.YtamfhmmcnlollaaGreat
namespace Go.Proofs.YtamfhmmcnlollaaGreat
open Go.RowKit
set_option linter.unusedVariables false
/-- an own slice apart from the block that has turned -/
theorem Own.apart {k : IntKind} {t : TypeId} {B n c n1 c1 : Nat} {w w' : World} {A A1 : Option Addr} {xs : List Nat} (h : Own k t B w A n c xs) (hlt : ∀ g, (Value.slice A1 n1 c1).ownBlock = some g → g < B) (hg : w.grownBy w' (Value.slice A1 n1 c1).ownBlock) : Own k t B w' A n c xs := by
  refine World.ownsRow.kept h hg ?_
  rcases A with _ | a
  · exact .inl rfl
  · right
    intro e
    rcases A1 with _ | a1
    · cases e
    · have h1 := hlt _ rfl
      have h2 := World.ownsRow.lt h _ rfl
      simp only [Value.ownBlock] at e
      injection e with e
      omega
end Go.Proofs.YtamfhmmcnlollaaGreat
namespace Go.Proofs.YtamfhmmcnlollaaGreat
open Go.RowKit
set_option linter.unusedVariables false
end Go.Proofs.YtamfhmmcnlollaaGreat
