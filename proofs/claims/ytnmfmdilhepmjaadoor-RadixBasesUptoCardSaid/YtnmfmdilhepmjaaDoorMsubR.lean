/-
  surdref01.MulSub.
-/
import Derived.Test.YtnmfmdilhepmjaaDoorSumB
import Derived.Test.YtnmfmdilhepmjaaDoorMsub
namespace Go.Proofs.YtnmfmdilhepmjaaDoor
open Go.RowKit
set_option linter.unusedVariables false
theorem Dgs.nil {w : World} : Dgs w (.slice none 0 0) 0 0 := ⟨none, 0, 0, [], rfl, Rd.nil, All.nil, rfl, Nat.le_refl _⟩

end Go.Proofs.YtnmfmdilhepmjaaDoor
