/-
  The reference of layer 1: surdref01.Trim, Cmp, Bits, Zeros, Bit.
-/
import Derived.Test.YtnmfmdilhepmjaaSumL
import Derived.Test.YtnmfmdilhepmjaaNatB
import Derived.Lib.TrailingZeros
namespace Go.Proofs.Ytnmfmdilhepmjaa
open Go.RowKit
set_option linter.unusedVariables false
theorem nb_mod_one {x i : Nat} (h : x / 2 ^ i % 2 = 1) : nb (x % 2 ^ (i + 1)) = i + 1 := by
  have e : x % 2 ^ (i + 1) = x % 2 ^ i + 2 ^ i * (x / 2 ^ i % 2) := by rw [Nat.pow_succ, Nat.mod_mul]
  have := Nat.mod_lt x (two_pos i)
  rw [e, h]
  exact nb_uniq (by omega) (by rw [Nat.pow_succ]; omega)
theorem mod_zerob {x i : Nat} (h : x / 2 ^ i % 2 = 0) : x % 2 ^ (i + 1) = x % 2 ^ i := by
  rw [Nat.pow_succ, Nat.mod_mul, h]; simp
/-- how often 2 divides -/
def tzn (x : Nat) : Nat := if x = 0 then 0 else Lib.ctzFrom x x
theorem tzn_uniq {x t m : Nat} (h : x = 2 ^ t * (2 * m + 1)) : tzn x = t := by
  have hx : 0 < x := by rw [h]; exact Nat.mul_pos (two_pos t) (by omega)
  obtain ⟨k, hk, _⟩ := Lib.ctzFrom_spec x x hx (Nat.lt_two_pow_self)
  rw [tzn, if_neg (by omega)]
  generalize Lib.ctzFrom x x = s at *
  rw [h] at hk
  have key : ∀ a b p q : Nat, a < b → 2 ^ a * (2 * p + 1) = 2 ^ b * (2 * q + 1) → False := by
    intro a b p q hab he
    obtain ⟨d, rfl⟩ : ∃ d, b = a + (d + 1) := ⟨b - a - 1, by omega⟩
    rw [Nat.pow_add, Nat.mul_assoc] at he
    have := Nat.eq_of_mul_eq_mul_left (two_pos a) he
    rw [Nat.pow_succ, Nat.mul_comm (2 ^ d), Nat.mul_assoc] at this
    omega
  rcases Nat.lt_trichotomy s t with h1 | h1 | h1
  · exact (key _ _ _ _ h1 hk.symm).elim
  · exact h1
  · exact (key _ _ _ _ h1 hk).elim
theorem tzn_bit {x t : Nat} (h0 : x % 2 ^ t = 0) (h1 : x / 2 ^ t % 2 = 1) : tzn x = t := by
  refine tzn_uniq (m := x / 2 ^ t / 2) ?_
  have a := Nat.div_add_mod x (2 ^ t)
  have b := Nat.div_add_mod (x / 2 ^ t) 2
  rw [h0, Nat.add_zero] at a
  rw [h1] at b
  rw [b]
  exact a.symm
end Go.Proofs.Ytnmfmdilhepmjaa
