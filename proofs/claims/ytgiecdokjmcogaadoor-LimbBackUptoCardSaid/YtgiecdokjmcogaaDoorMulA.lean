/-
  Walks: mul.cut, mul.lift, mul.product (school), mul.halves, mul.Mul, Square, MulAdd.
-/
import Derived.Test.YtgiecdokjmcogaaDoorNat
namespace Go.Proofs.YtgiecdokjmcogaaDoor
open Go.RowKit
set_option linter.unusedVariables false

theorem run_min2 {P : Program} (ts : Array TypeId) (t : TypeId) (n m : Nat) (w : World) : (Builtin.min_ ts t #[.int .i64 (n : Int), .int .i64 (m : Int)]).run P w = .ok (.int .i64 ((min n m : Nat) : Int)) w := by
  rw [run_min_int2]
  congr 2
  split <;> omega

/-- two new numbers in their own form -/
def GN2 (w : World) (x L y M : Nat) (e : Ending) (w' : World) : Prop :=
  ∃ A n c A2 n2 c2, e = .returned (.tuple #[.slice A n c, .slice A2 n2 c2]) ∧ Own .u64 22 w.heap.size w' A n c (dg W x) ∧ Own .u64 22 w.heap.size w' A2 n2 c2 (dg W y) ∧ Below w.heap.size w w' ∧ n ≤ L ∧ n2 ≤ M

theorem val_drop_eq {xs : List Nat} {k : Nat} (ha : All W xs) (hk : k ≤ xs.length) : val W (xs.drop k) = val W xs / W ^ k ∧ val W (xs.take k) = val W xs % W ^ k := by
  have h := val_append (b := W) (xs.take k) (xs.drop k)
  rw [List.take_append_drop, List.length_take, Nat.min_eq_left hk] at h
  have l := val_lt (ha.take k)
  rw [List.length_take, Nat.min_eq_left hk] at l
  rw [h]
  refine ⟨?_, ?_⟩
  · rw [Nat.add_mul_div_left _ _ (Nat.pow_pos W_pos), Nat.div_eq_of_lt l, Nat.zero_add]
  · rw [Nat.add_mul_mod_self_left, Nat.mod_eq_of_lt l]
theorem val_cut {xs : List Nat} {n : Nat} (ha : All W xs) : val W (xs.drop (min n xs.length)) = val W xs / W ^ n ∧ val W (xs.take (min n xs.length)) = val W xs % W ^ n := by
  by_cases h : n ≤ xs.length
  · rw [Nat.min_eq_left h]; exact val_drop_eq ha h
  · rw [Nat.min_eq_right (by omega), List.drop_length, List.take_length]
    have l : val W xs < W ^ n := Nat.lt_of_lt_of_le (val_lt ha) (Nat.pow_le_pow_right W_pos (by omega))
    rw [Nat.div_eq_of_lt l, Nat.mod_eq_of_lt l]
    exact ⟨rfl, rfl⟩

theorem halves_law (x y B : Nat) (hB : 0 < B) : (x / B * (y / B) * (B * B) + ((x / B + x % B) * (y / B + y % B) - (x / B * (y / B) + x % B * (y % B))) * B) + x % B * (y % B) = x * y := by
  have e1 := Nat.div_add_mod x B
  have e2 := Nat.div_add_mod y B
  generalize x / B = x1 at *
  generalize x % B = x0 at *
  generalize y / B = y1 at *
  generalize y % B = y0 at *
  subst e1 e2
  have e3 : (x1 + x0) * (y1 + y0) - (x1 * y1 + x0 * y0) = x1 * y0 + x0 * y1 := by
    rw [Nat.add_mul, Nat.mul_add, Nat.mul_add]; omega
  rw [e3]
  simp only [Nat.add_mul, Nat.mul_add]
  have a1 : x1 * y1 * (B * B) = B * x1 * (B * y1) := by
    rw [Nat.mul_comm B x1, Nat.mul_comm B y1, Nat.mul_mul_mul_comm]
  have a2 : x1 * y0 * B = B * x1 * y0 := by rw [Nat.mul_comm B x1, Nat.mul_assoc, Nat.mul_assoc, Nat.mul_comm y0 B]
  have a3 : x0 * y1 * B = x0 * (B * y1) := by rw [Nat.mul_assoc, Nat.mul_comm y1 B]
  omega
theorem halves_le (x y B : Nat) : x / B * (y / B) + x % B * (y % B) ≤ (x / B + x % B) * (y / B + y % B) := by
  rw [Nat.add_mul, Nat.mul_add, Nat.mul_add]; omega

end Go.Proofs.YtgiecdokjmcogaaDoor
