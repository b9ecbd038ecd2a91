/-
  The reference of layer 1: surdref01.from, Add, Sub, MulAdd, DivOne; surdlaw01.copied.
-/
import Derived.Test.YtnmfmdilhepmjaaDoorFixed
namespace Go.Proofs.YtnmfmdilhepmjaaDoor
open Go.RowKit
set_option linter.unusedVariables false

theorem Own.lit0 {k : IntKind} {t : TypeId} {B : Nat} (w : World) (hB : B ≤ w.heap.size) : Own k t B (w.alloc (.cells #[] t)) (some ⟨w.heap.size, 0, none⟩) 0 0 [] :=
  Own.lit (k := k) (t := t) w [] (by simp [maxLen]) hB

end Go.Proofs.YtnmfmdilhepmjaaDoor
