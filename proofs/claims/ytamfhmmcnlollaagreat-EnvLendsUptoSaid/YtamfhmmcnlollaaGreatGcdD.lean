/-
  Walks: gcd.All; surdtop.bezout.
-/
import Derived.Test.YtamfhmmcnlollaaGreatGcd
import Derived.Test.YtamfhmmcnlollaaGreatPowX
import Derived.Test.YtamfhmmcnlollaaGreatNatC
namespace Go.Proofs.YtamfhmmcnlollaaGreat
open Go.RowKit
set_option linter.unusedVariables false
theorem Num.empty {t : TypeId} {b : Nat} (w : World) (hb : b = w.heap.size) : Num (w.alloc (.cells #[] t)) (.slice (some ⟨b, 0, none⟩) 0 0) 0 0 := ⟨_, _, _, [], rfl, Rd.nil, All.nil, rfl, Nat.le_refl _⟩
end Go.Proofs.YtamfhmmcnlollaaGreat
