/-
  LimbSums: Add, Sub, MulAdd, MulSub, DivOne of any lists and words are the document's.
-/
import Derived.Test.YtnmfmdilhepmjaaMsubR
namespace Go.Proofs.Ytnmfmdilhepmjaa
open Go.RowKit
set_option linter.unusedVariables false

theorem At.grow {w : World} {p : Addr} {v : Value} (h : At w p v) : ∀ w', Grow none w.drew w' → w'.cell? p = some v := fun w' g => g.cell (p := p) (v := v) h.1 (by simp)

end Go.Proofs.Ytnmfmdilhepmjaa
