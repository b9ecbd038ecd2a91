/-
  MulRing: the laws of products, for all numbers.
-/
import Derived.Test.YtnmfmdilhepmjaaRef3C
namespace Go.Proofs.Ytnmfmdilhepmjaa
open Go.RowKit
set_option linter.unusedVariables false

theorem awake_sq : dg W (val W [18446744073709551615] * val W [18446744073709551615]) = [1, 18446744073709551614] := by
  have e : val W [18446744073709551615] * val W [18446744073709551615] = val W [1, 18446744073709551614] := by decide
  rw [e]
  exact (norm_dg W_gt (xs := [1, 18446744073709551614]) (by simp [All, W_eq]) (by simp [Norm, strip])).symm

end Go.Proofs.Ytnmfmdilhepmjaa
