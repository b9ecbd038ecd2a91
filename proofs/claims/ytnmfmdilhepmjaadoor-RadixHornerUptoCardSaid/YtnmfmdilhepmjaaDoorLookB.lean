/-
  math/bits.TrailingZeros64 over its table; limb.Zeros, Bit; surdref01.Bit.
-/
import Derived.Test.YtnmfmdilhepmjaaDoorLookA
import Derived.Lib.LaidTab
namespace Go.Proofs.YtnmfmdilhepmjaaDoor
open Go.RowKit
set_option linter.unusedVariables false
theorem tz_key (x a : Nat) (hx : x < 18446744073709551616) (hx0 : x ≠ 0) (hlow : x &&& (18446744073709551616 - x) = a) :
    IntKind.u64.wrap (bits BinOp.and IntKind.u64 (x : Int) (IntKind.u64.wrap (-(x : Int))) * 285870213051353865) / 288230376151711744 = ((a * 285870213051353865 % 18446744073709551616 / 288230376151711744 : Nat) : Int) := by
  have e1 : IntKind.u64.wrap (-(x : Int)) = ((18446744073709551616 - x : Nat) : Int) := by rw [IntKind.wrap_u64]; omega
  rw [e1, bits_and_u64_nat x _ hx (by omega), hlow, IntKind.wrap_u64]
  omega
theorem ctz_word {x : Nat} (hx : x < W) (h0 : x ≠ 0) : ∃ m, x = 2 ^ Lib.ctz 64 x * (2 * m + 1) := by
  obtain ⟨m, hm, _⟩ := Lib.ctzFrom_spec 64 x (by omega) hx
  exact ⟨m, by rw [Lib.ctz, if_neg h0]; exact hm⟩
theorem tzn_words {xs : List Nat} (h : All W xs) {i : Nat} (hz : val W (xs.take i) = 0) (h0 : nth xs i ≠ 0) : tzn (val W xs) = i * 64 + Lib.ctz 64 (nth xs i) := by
  have hW := h.nth W_pos i
  obtain ⟨m, hm⟩ := ctz_word hW h0
  obtain ⟨_, hk⟩ := Lib.lowest_bit 64 (nth xs i) h0 hW
  generalize Lib.ctz 64 (nth xs i) = t at *
  have e : val W xs = val W (xs.take i) + W ^ i * val W (xs.drop i) := by
    have a := val_append (b := W) (xs.take i) (xs.drop i)
    rw [List.take_append_drop] at a
    have hi : i < xs.length := by
      rcases Nat.lt_or_ge i xs.length with h1 | h1
      · exact h1
      · exact absurd (nth_ge h1) h0
    rw [List.length_take, Nat.min_eq_left (by omega)] at a
    exact a
  rw [hz, Nat.zero_add, val_nth, hm, W_pow2] at e
  have hWt : W = 2 ^ t * 2 ^ (64 - t) := W_two (by omega)
  have h2 : 2 ^ (64 - t) = 2 * 2 ^ (63 - t) := by rw [show 64 - t = 63 - t + 1 by omega, Nat.pow_succ, Nat.mul_comm]
  generalize val W (xs.drop (i + 1)) = Z at e
  refine tzn_uniq (m := m + 2 ^ (63 - t) * Z) ?_
  have e3 : W * Z = 2 ^ t * (2 * (2 ^ (63 - t) * Z)) := by rw [hWt, h2, Nat.mul_assoc, Nat.mul_assoc]
  have e4 : 2 * (m + 2 ^ (63 - t) * Z) + 1 = 2 * m + 1 + 2 * (2 ^ (63 - t) * Z) := by rw [Nat.mul_add]; omega
  rw [e, e3, ← Nat.mul_add, e4, Nat.mul_comm i 64, Nat.pow_add, Nat.mul_assoc]
theorem bit_word {x r : Nat} (hx : x < W) : bits .and .u64 (((x / 2 ^ r : Nat) : Int)) 1 = ((x / 2 ^ r % 2 : Nat) : Int) := by
  have h := bits_and_u64_nat (x / 2 ^ r) 1 (Nat.lt_of_le_of_lt (Nat.div_le_self _ _) hx) (by omega)
  rw [Nat.and_one_is_mod] at h
  exact h
theorem nth_bit64 {xs : List Nat} (h : All W xs) (i : Nat) : nth xs (i / 64) / 2 ^ (i % 64) % 2 = val W xs / 2 ^ i % 2 := by
  rw [two_split i, Nat.mul_comm, ← Nat.div_div_eq_div_mul, ← val_drop_div h, val_nth]
  have hW : W = 2 ^ (i % 64) * 2 ^ (64 - i % 64) := W_two (by omega)
  have h2 : 2 ^ (64 - i % 64) = 2 * 2 ^ (63 - i % 64) := by rw [show 64 - i % 64 = 63 - i % 64 + 1 by omega, Nat.pow_succ, Nat.mul_comm]
  rw [hW, Nat.mul_assoc, Nat.add_mul_div_left _ _ (two_pos _), h2, Nat.mul_assoc, Nat.add_mul_mod_self_left]
end Go.Proofs.YtnmfmdilhepmjaaDoor
