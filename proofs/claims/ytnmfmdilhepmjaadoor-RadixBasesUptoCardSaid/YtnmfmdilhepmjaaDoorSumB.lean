/-
  The reference of layer 1: surdref01.Add, Sub, MulAdd, DivOne.
-/
import Derived.Test.YtnmfmdilhepmjaaDoorSumA
namespace Go.Proofs.YtnmfmdilhepmjaaDoor
open Go.RowKit
set_option linter.unusedVariables false

theorem WD_pow (n : Nat) : W ^ n = D ^ (4 * n) := by rw [W_D, ← Nat.pow_mul]
theorem lt_D {x n : Nat} (h : x < W ^ n) : x < D ^ (4 * n) := by rw [← WD_pow]; exact h
theorem Rd.vlt {w : World} {A : Option Addr} {n c : Nat} {xs : List Nat} (h : Rd .u64 w A n c xs) (hx : All W xs) : val W xs < W ^ n := by
  have := val_lt hx
  rwa [h.len] at this
theorem plus_lt {x y n m K : Nat} (hx : x < W ^ n) (hy : y < W ^ m) (hK : max n m = K) : x + y < D ^ (4 * K + 1) := by
  have a : W ^ n ≤ W ^ K := Nat.pow_le_pow_right W_pos (by omega)
  have b : W ^ m ≤ W ^ K := Nat.pow_le_pow_right W_pos (by omega)
  have e : D ^ (4 * K + 1) = W ^ K * D := by rw [Nat.pow_succ, WD_pow]
  rw [e, D_eq]
  omega

theorem sub_K {x n M : Nat} (hx : x < W ^ n) (hn : n ≤ M) : x + D ^ (4 * M) < D ^ (4 * M + 1) := by
  have a : W ^ n ≤ W ^ M := Nat.pow_le_pow_right W_pos hn
  have e : D ^ (4 * M + 1) = W ^ M * D := by rw [Nat.pow_succ, WD_pow]
  rw [e, ← WD_pow, D_eq]
  omega
end Go.Proofs.YtnmfmdilhepmjaaDoor
