/-
  nat.Cut.
-/
import Derived.Test.YtphofjinncbaaaaNatC
namespace Go.Proofs.Ytphofjinncbaaaa
open Go.RowKit
set_option linter.unusedVariables false

theorem mask_word {x r : Nat} (hx : x < W) (hr : r < 64) : bits .and .u64 (x : Int) (IntKind.u64.wrap (IntKind.u64.wrap (2 ^ r) - 1)) = ((x % 2 ^ r : Nat) : Int) := by
  have h1 : 2 ^ r ≤ 2 ^ 63 := Nat.pow_le_pow_right (by omega) (by omega)
  have h0 := two_pos r
  have e1 : ((2 : Int) ^ r) = ((2 ^ r : Nat) : Int) := by rw [Int.natCast_pow]; rfl
  rw [e1]
  generalize hp : 2 ^ r = p at *
  have e2 : IntKind.u64.wrap (p : Int) = (p : Int) := wrapN _ (by omega)
  have e3 : IntKind.u64.wrap ((p : Int) - 1) = ((p - 1 : Nat) : Int) := by rw [IntKind.wrap_u64]; omega
  rw [e2, e3]
  have h := bits_and_u64_nat x (p - 1) hx (by omega)
  rw [h]
  congr 1
  rw [← hp, Nat.and_two_pow_sub_one_eq_mod]

end Go.Proofs.Ytphofjinncbaaaa
