/-
  surdref01.MulSub.
-/
import Derived.Test.YtgiecdokjmcogaaDoorSumB
import Derived.Test.YtgiecdokjmcogaaDoorMsub
namespace Go.Proofs.YtgiecdokjmcogaaDoor
open Go.RowKit
set_option linter.unusedVariables false

theorem msb_le {x p N : Nat} (hN : 0 < N) (h : p ≤ x) : msb x p N = 0 := by
  unfold msb
  have : p - x = 0 := by omega
  rw [this]
  exact Nat.div_eq_of_lt (by omega)
theorem msb_q {x p N : Nat} (hN : 0 < N) (h : (p - x) % N = 0) : msb x p N = (p - x) / N := by
  unfold msb
  have := Nat.div_add_mod (p - x) N
  rw [h, Nat.add_zero] at this
  have e2 : p - x + N - 1 = N * ((p - x) / N) + (N - 1) := by omega
  rw [e2, Nat.mul_add_div hN, Nat.div_eq_of_lt (show N - 1 < N by omega), Nat.add_zero]
theorem msb_q1 {x p N : Nat} (hN : 0 < N) (h : 0 < (p - x) % N) : msb x p N = (p - x) / N + 1 := by
  unfold msb
  have e := Nat.div_add_mod (p - x) N
  have l := Nat.mod_lt (p - x) hN
  generalize (p - x) % N = r at *
  generalize (p - x) / N = q at *
  rw [← e]
  have : N * q + r + N - 1 = N * (q + 1) + (r - 1) := by rw [Nat.mul_succ]; omega
  rw [this, Nat.mul_add_div hN, Nat.div_eq_of_lt (by omega), Nat.add_zero]
theorem msb_ok {x p N : Nat} (hN : 0 < N) : p ≤ x + N * msb x p N := by
  by_cases h : p ≤ x
  · omega
  · have e := Nat.div_add_mod (p - x) N
    rcases Nat.eq_zero_or_pos ((p - x) % N) with h0 | h0
    · rw [msb_q hN h0]; omega
    · rw [msb_q1 hN h0, Nat.mul_succ]
      have := Nat.mod_lt (p - x) hN
      omega
theorem msb_lt {x z y n m : Nat} (hz : z < W ^ m) (hy : y < W) (hm : m ≤ n) : msb x (z * y) (W ^ n) < W := by
  unfold msb
  have h1 := mad_lt (n := n) (Nat.lt_of_lt_of_le hz (Nat.pow_le_pow_right W_pos hm)) hy W_pos
  have hp := Nat.pow_pos (n := n) W_pos
  refine Nat.div_lt_of_lt_mul ?_
  have h2 : z * y ≤ W ^ n * (W - 1) := by
    have a : z * y ≤ W ^ n * y := Nat.mul_le_mul_right _ (Nat.le_of_lt (Nat.lt_of_lt_of_le hz (Nat.pow_le_pow_right W_pos hm)))
    have b : W ^ n * y ≤ W ^ n * (W - 1) := Nat.mul_le_mul_left _ (by omega)
    omega
  have h3 : W ^ n * (W - 1) + W ^ n = W ^ n * W := by
    rw [← Nat.mul_succ]
    rfl
  omega

theorem Dgs.nil {w : World} : Dgs w (.slice none 0 0) 0 0 := ⟨none, 0, 0, [], rfl, Rd.nil, All.nil, rfl, Nat.le_refl _⟩

end Go.Proofs.YtgiecdokjmcogaaDoor
